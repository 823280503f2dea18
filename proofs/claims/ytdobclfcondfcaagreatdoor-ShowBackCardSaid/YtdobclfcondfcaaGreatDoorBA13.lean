/- What the card of this claim stands on, or the card itself: for every input, as the given row says. -/
import Derived.Test.YtdobclfcondfcaaGreatDoorBA07
import Derived.Test.YtdobclfcondfcaaGreatDoorBA08
import Derived.Test.YtdobclfcondfcaaGreatDoorBA11

namespace Go.Ax
open Go.Proofs
set_option maxRecDepth 10000
def EndT (l : List TokT) : Prop := ∃ i, l = i ++ [noTok]
theorem EndT.tail {t : TokT} {r : List TokT} (h : EndT (t :: r)) (hk : t.kind ≠ 0) : EndT r := by
  obtain ⟨i, hi⟩ := h
  cases i with
  | nil =>
    injection hi with h1 h2
    subst h1; exact absurd rfl hk
  | cons x i => injection hi with h1 h2; exact ⟨i, h2⟩
theorem EndT.not_nil (h : EndT []) : False := by obtain ⟨i, h⟩ := h; simp at h
structure SP where
  l : List TokT
  ok : EndT l
  ns : List (ByteArray × Int)
  unk : Bool
  twi : Bool
def entN (e : ByteArray × Int) : List D × D := ([.v (.string e.1)], .u16 e.2)
def objSP (p : SP) : AObj := .var [.d (.sl false 3 (p.l.map rowK)), .mp 9001, .bool p.unk, .bool p.twi]
def spH (p : SP) : HL := [(9000, some (objSP p)), (9001, some (.map false (p.ns.map entN)))]
abbrev Failed : List PanicEntry := [{ v := .iface 180 (.agg #[]), recovered := false }]
def hdT (p : SP) : TokT := p.l.headD noTok
def SP.tl (p : SP) (h : (hdT p).kind ≠ 0) : SP := ⟨p.l.tail, by
  obtain ⟨l, ok, _, _, _⟩ := p
  cases l with
  | nil => exact ok.not_nil.elim
  | cons t r => exact ok.tail h, p.ns, p.unk, p.twi⟩
def nextS (p : SP) : Option (TokT × SP) := if h : (hdT p).kind = 0 then none else some (hdT p, p.tl h)
theorem fail_ctr (g : GP) : Ctr (ax g).E 168 [.ptr 9000 0] [] (fun o => o = .pan Failed []) := by
  refine Ctr.body (X := ax g) _ 4 [] [] Tryz.func168 rfl rfl rfl rfl (by decide +kernel) rfl rfl ?_
  conv => whnf
  repeat' (first | (refine And.intro easyA ?_; conv => whnf) | (refine ifB_intro (fun hA => ?_) (fun hA => ?_) <;> (try rw [hA]) <;> (conv => whnf) <;> (first | replace hA := nrmA hA | replace hA := nrmB hA | replace hA := nrmC hA | replace hA := nrmD hA | replace hA := nrmE hA | replace hA := nrmF hA | skip) <;> (try simp only [List.length_map, cond_true, cond_false, Bool.not_eq_true', Bool.not_eq_false', beq_iff_eq, beq_eq_false_iff_ne, ne_eq] at hA)) | (rw [getD_map _ _ _ _ (by assumption)]; conv => whnf))
  exact ⟨⟨[], trivial, rfl, rfl⟩⟩
theorem rest_rows (t : TokT) (r : List TokT) : List.take (((List.map rowK (t :: r)).length : Int).toNat - (1 : Int).toNat) (List.drop (1 : Int).toNat (List.map rowK (t :: r))) = List.map rowK r := by simp [← List.map_take]
theorem snext_ctr (g : GP) (p : SP) : Ctr (ax g).E 201 [.ptr 9000 0] (spH p) (fun o => o = outP Failed (fun x : TokT × SP => .dagg (rowK x.1)) (fun x => spH x.2) (nextS p)) := by
  obtain ⟨l, ok, ns, u, w⟩ := p
  cases l with
  | nil => exact ok.not_nil.elim
  | cons t r =>
    refine Ctr.body (X := ax g) _ 24 [9000, 9001] [.cell 2 173] Tryz.func201 rfl rfl rfl rfl (by decide +kernel) rfl rfl ?_
    conv => whnf
    repeat' (first | (refine And.intro easyA ?_; conv => whnf) | (refine ifB_intro (fun hA => ?_) (fun hA => ?_) <;> (try rw [hA]) <;> (conv => whnf) <;> (first | replace hA := nrmA hA | replace hA := nrmB hA | replace hA := nrmC hA | replace hA := nrmD hA | replace hA := nrmE hA | replace hA := nrmF hA | skip) <;> (try simp only [List.length_map, cond_true, cond_false, Bool.not_eq_true', Bool.not_eq_false', beq_iff_eq, beq_eq_false_iff_ne, ne_eq] at hA)) | (refine CallP.fails (fail_ctr g) ?_; (conv => whnf); refine ⟨⟨[], trivial, rfl, ?_⟩⟩) | (rw [getD_map _ _ _ _ (by assumption)]; conv => whnf))
    · simp [nextS, hdT, hA, outP]
    · refine ⟨⟨spH ⟨r, ok.tail hA, ns, u, w⟩, ?_⟩⟩
      conv => whnf
      refine And.intro ⟨fun o h => by rw [← h]; exact congrArg (fun z => some (AObj.var [.d (.sl false 3 z), .mp 9001, .bool u, .bool w])) (rest_rows t r), fun o h => h, trivial⟩ ?_
      repeat' (first | (refine And.intro easyA ?_; conv => whnf) | (refine ifB_intro (fun hA => ?_) (fun hA => ?_) <;> (try rw [hA]) <;> (conv => whnf) <;> (first | replace hA := nrmA hA | replace hA := nrmB hA | replace hA := nrmC hA | replace hA := nrmD hA | replace hA := nrmE hA | replace hA := nrmF hA | skip) <;> (try simp only [List.length_map, cond_true, cond_false, Bool.not_eq_true', Bool.not_eq_false', beq_iff_eq, beq_eq_false_iff_ne, ne_eq] at hA)) | (rw [getD_map _ _ _ _ (by assumption)]; conv => whnf))
      simp [nextS, hdT, hA, outP, SP.tl]
      rfl
def peekS (p : SP) : ByteArray := if (hdT p).kind = 1 ∨ (hdT p).kind = 3 then (hdT p).s else ⟨#[]⟩
theorem speek_ctr (g : GP) (p : SP) : Ctr (ax g).E 202 [.ptr 9000 0] (spH p) (fun o => o = .ret (.str (peekS p)) (spH p)) := by
  obtain ⟨l, ok, ns, u, w⟩ := p
  cases l with
  | nil => exact ok.not_nil.elim
  | cons t r =>
    refine Ctr.body (X := ax g) _ 20 [9000, 9001] [.tmp 2] Tryz.func202 rfl rfl rfl rfl (by decide +kernel) rfl rfl ?_
    conv => whnf
    repeat' (first | (refine And.intro easyA ?_; conv => whnf) | (refine ifB_intro (fun hA => ?_) (fun hA => ?_) <;> (try rw [hA]) <;> (conv => whnf) <;> (first | replace hA := nrmA hA | replace hA := nrmB hA | replace hA := nrmC hA | replace hA := nrmD hA | replace hA := nrmE hA | replace hA := nrmF hA | skip) <;> (try simp only [List.length_map, cond_true, cond_false, Bool.not_eq_true', Bool.not_eq_false', beq_iff_eq, beq_eq_false_iff_ne, ne_eq] at hA)) | (rw [getD_map _ _ _ _ (by assumption)]; conv => whnf))
    all_goals (refine ⟨⟨spH ⟨t :: r, ok, ns, u, w⟩, ?_⟩⟩; (conv => whnf))
    repeat' (first | (refine And.intro easyA ?_; conv => whnf) | (refine ifB_intro (fun hA => ?_) (fun hA => ?_) <;> (try rw [hA]) <;> (conv => whnf) <;> (first | replace hA := nrmA hA | replace hA := nrmB hA | replace hA := nrmC hA | replace hA := nrmD hA | replace hA := nrmE hA | replace hA := nrmF hA | skip) <;> (try simp only [List.length_map, cond_true, cond_false, Bool.not_eq_true', Bool.not_eq_false', beq_iff_eq, beq_eq_false_iff_ne, ne_eq] at hA)) | (refine And.intro ⟨fun o h => h, fun o h => h, trivial⟩ ?_; conv => whnf) | (rw [getD_map _ _ _ _ (by assumption)]; conv => whnf))
    all_goals simp_all [peekS, hdT]
theorem peek_kind {p : SP} {s : ByteArray} (hs : s ≠ ⟨#[]⟩) (h : (peekS p).data.toList = s.data.toList) : (hdT p).kind ≠ 0 := fun e => by
  simp only [peekS, e] at h
  apply hs
  have : s.data = #[] := by
    rw [if_neg (by omega)] at h
    exact Array.toList_inj.1 h.symm
  cases s; simp_all
def takeS (s : ByteArray) (p : SP) : Bool × SP := if h : (peekS p).data.toList = s.data.toList ∧ (hdT p).kind ≠ 0 then (true, p.tl h.2) else (false, p)
theorem take_ctr (g : GP) (p : SP) (s : ByteArray) (hs : s ≠ ⟨#[]⟩) : Ctr (ax g).E 164 [.ptr 9000 0, .str s] (spH p) (fun o => o = .ret (.bool (takeS s p).1) (spH (takeS s p).2)) := by
  refine Ctr.body (X := ax g) _ 11 [9000, 9001] [.tmp 4] Tryz.func164 rfl rfl rfl rfl (by decide +kernel) rfl rfl ?_
  conv => whnf
  repeat' (first | (refine And.intro easyA ?_; conv => whnf) | (refine ifB_intro (fun hA => ?_) (fun hA => ?_) <;> (try rw [hA]) <;> (conv => whnf) <;> (first | replace hA := nrmA hA | replace hA := nrmB hA | replace hA := nrmC hA | replace hA := nrmD hA | replace hA := nrmE hA | replace hA := nrmF hA | skip) <;> (try simp only [ne_eq] at hA)) | (refine CallP.hlb (speek_ctr g p) (by (conv => whnf); repeat' first | exact trivial | refine And.intro (fun _ h => h) ?_) rfl ?_; conv => whnf) | (refine CallD.hlb (speek_ctr g p) (by (conv => whnf); repeat' first | exact trivial | refine And.intro (fun _ h => h) ?_) ?_; conv => whnf) | (refine CallP.may (snext_ctr g p) (by (conv => whnf); repeat' first | exact trivial | refine And.intro (fun _ h => h) ?_) (fun _ => rfl) (fun hN => ?_) (fun xS hS => ?_) <;> (conv => whnf) <;> (try refine ⟨⟨[], trivial, rfl, ?_⟩⟩)) | (rw [getD_map _ _ _ _ (by assumption)]; conv => whnf))
  · refine ⟨⟨spH p, ?_⟩⟩
    conv => whnf
    repeat' (first | (refine And.intro easyA ?_; conv => whnf) | (refine ifB_intro (fun hA => ?_) (fun hA => ?_) <;> (try rw [hA]) <;> (conv => whnf) <;> (first | replace hA := nrmA hA | replace hA := nrmB hA | replace hA := nrmC hA | replace hA := nrmD hA | replace hA := nrmE hA | replace hA := nrmF hA | skip) <;> (try simp only [List.length_map, cond_true, cond_false, Bool.not_eq_true', Bool.not_eq_false', beq_iff_eq, beq_eq_false_iff_ne, ne_eq] at hA)) | (refine And.intro ⟨fun o h => h, fun o h => h, trivial⟩ ?_; conv => whnf) | (rw [getD_map _ _ _ _ (by assumption)]; conv => whnf))
    rw [takeS, dif_neg (fun h => hA h.1)]
  · rw [nextS, dif_neg (peek_kind hs hA)] at hN; exact absurd hN (by simp)
  · rw [nextS, dif_neg (peek_kind hs hA)] at hS
    injection hS with hS
    subst hS
    refine ⟨⟨spH (p.tl (peek_kind hs hA)), ?_⟩⟩
    conv => whnf
    repeat' (first | (refine And.intro easyA ?_; conv => whnf) | (refine ifB_intro (fun hA => ?_) (fun hA => ?_) <;> (try rw [hA]) <;> (conv => whnf) <;> (first | replace hA := nrmA hA | replace hA := nrmB hA | replace hA := nrmC hA | replace hA := nrmD hA | replace hA := nrmE hA | replace hA := nrmF hA | skip) <;> (try simp only [List.length_map, cond_true, cond_false, Bool.not_eq_true', Bool.not_eq_false', beq_iff_eq, beq_eq_false_iff_ne, ne_eq] at hA)) | (refine And.intro ⟨fun o h => h, fun o h => h, trivial⟩ ?_; conv => whnf) | (rw [getD_map _ _ _ _ (by assumption)]; conv => whnf))
    rw [takeS, dif_pos ⟨hA, peek_kind hs hA⟩]
def mustS (s : ByteArray) (p : SP) : Option SP := if (takeS s p).1 = true then some (takeS s p).2 else none
theorem must5_ctr (g : GP) (p : SP) (s : ByteArray) (hs : s ≠ ⟨#[]⟩) : Ctr (ax g).E 162 [.ptr 9000 0, .str s] (spH p) (fun o => o = outP Failed (fun _ : SP => .tup []) spH (mustS s p)) := by
  refine Ctr.body (X := ax g) _ 10 [9000, 9001] [] Tryz.func162 rfl rfl rfl rfl (by decide +kernel) rfl rfl ?_
  conv => whnf
  repeat' (first | (refine And.intro easyA ?_; conv => whnf) | (refine ifB_intro (fun hA => ?_) (fun hA => ?_) <;> (try rw [hA]) <;> (conv => whnf) <;> (first | replace hA := nrmA hA | replace hA := nrmB hA | replace hA := nrmC hA | replace hA := nrmD hA | replace hA := nrmE hA | replace hA := nrmF hA | skip) <;> (try simp only [Bool.not_eq_true', Bool.not_eq_false'] at hA)) | (refine CallP.hlb (take_ctr g p s hs) (by (conv => whnf); repeat' first | exact trivial | refine And.intro (fun _ h => h) ?_) rfl ?_; conv => whnf) | (refine CallD.hlb (take_ctr g p s hs) (by (conv => whnf); repeat' first | exact trivial | refine And.intro (fun _ h => h) ?_) ?_; conv => whnf) | (refine CallP.fails (fail_ctr g) ?_; (conv => whnf); refine ⟨⟨[], trivial, rfl, ?_⟩⟩) | (rw [getD_map _ _ _ _ (by assumption)]; conv => whnf))
  · rw [mustS, if_neg (by simp [hA])]; rfl
  · refine ⟨⟨spH (takeS s p).2, ?_⟩⟩
    conv => whnf
    repeat' (first | (refine And.intro easyA ?_; conv => whnf) | (refine ifB_intro (fun hA => ?_) (fun hA => ?_) <;> (try rw [hA]) <;> (conv => whnf) <;> (first | replace hA := nrmA hA | replace hA := nrmB hA | replace hA := nrmC hA | replace hA := nrmD hA | replace hA := nrmE hA | replace hA := nrmF hA | skip) <;> (try simp only [List.length_map, cond_true, cond_false, Bool.not_eq_true', Bool.not_eq_false', beq_iff_eq, beq_eq_false_iff_ne, ne_eq] at hA)) | (refine And.intro ⟨fun o h => h, fun o h => h, trivial⟩ ?_; conv => whnf) | (rw [getD_map _ _ _ _ (by assumption)]; conv => whnf))
    rw [mustS, if_pos hA]; rfl
def numS (p : SP) : Option (Int × SP) := match nextS p with
  | none => none
  | some (t, q) => if t.kind = 2 then some (t.n, q) else none
theorem num5_ctr (g : GP) (p : SP) : Ctr (ax g).E 163 [.ptr 9000 0] (spH p) (fun o => o = outP Failed (fun x : Int × SP => .d (.u16 x.1)) (fun x => spH x.2) (numS p)) := by
  refine Ctr.body (X := ax g) _ 13 [9000, 9001] [.tmp 2] Tryz.func163 rfl rfl rfl rfl (by decide +kernel) rfl rfl ?_
  conv => whnf
  repeat' (first | (refine And.intro easyA ?_; conv => whnf) | (refine ifB_intro (fun hA => ?_) (fun hA => ?_) <;> (try rw [hA]) <;> (conv => whnf) <;> (first | replace hA := nrmA hA | replace hA := nrmB hA | replace hA := nrmC hA | replace hA := nrmD hA | replace hA := nrmE hA | replace hA := nrmF hA | skip) <;> (try simp only [ne_eq] at hA)) | (refine CallP.may (snext_ctr g p) (by (conv => whnf); repeat' first | exact trivial | refine And.intro (fun _ h => h) ?_) (fun _ => rfl) (fun hN => ?_) (fun xS hS => ?_) <;> (conv => whnf) <;> (try refine ⟨⟨[], trivial, rfl, ?_⟩⟩)) | (refine CallP.fails (fail_ctr g) ?_; (conv => whnf); refine ⟨⟨[], trivial, rfl, ?_⟩⟩) | (rw [getD_map _ _ _ _ (by assumption)]; conv => whnf))
  · rw [numS, hN]; rfl
  · rw [numS, hS]; simp only [if_neg hA]; rfl
  · refine ⟨⟨spH xS.2, ?_⟩⟩
    conv => whnf
    repeat' (first | (refine And.intro easyA ?_; conv => whnf) | (refine ifB_intro (fun hA => ?_) (fun hA => ?_) <;> (try rw [hA]) <;> (conv => whnf) <;> (first | replace hA := nrmA hA | replace hA := nrmB hA | replace hA := nrmC hA | replace hA := nrmD hA | replace hA := nrmE hA | replace hA := nrmF hA | skip) <;> (try simp only [List.length_map, cond_true, cond_false, Bool.not_eq_true', Bool.not_eq_false', beq_iff_eq, beq_eq_false_iff_ne, ne_eq] at hA)) | (refine And.intro ⟨fun o h => h, fun o h => h, trivial⟩ ?_; conv => whnf) | (rw [getD_map _ _ _ _ (by assumption)]; conv => whnf))
    rw [numS, hS]; simp only [if_pos hA]; rfl
def fieldGo (w : ByteArray) : List Nat → Option Nat
  | [] => none
  | i :: r => if (nameF (i : Int)).data.toList = w.data.toList then some i else fieldGo w r
def fieldIx (w : ByteArray) : Option Nat := fieldGo w [0, 1, 2, 3, 4, 5, 6, 7]
def fieldR (o : Option Nat) : AOut := .ret (.tup [.i64 ((o.getD 0 : Nat) : Int), .bool o.isSome]) []
theorem fieldGo_drop (w : ByteArray) (i : Nat) (h : i < 8) : fieldGo w ([0, 1, 2, 3, 4, 5, 6, 7].drop i) = if (nameF (i : Int)).data.toList = w.data.toList then some i else fieldGo w ([0, 1, 2, 3, 4, 5, 6, 7].drop (i + 1)) := by
  match i, h with
  | 0, _ | 1, _ | 2, _ | 3, _ | 4, _ | 5, _ | 6, _ | 7, _ => rfl
theorem pfield_ctr (g : GP) (w : ByteArray) : Ctr (ax g).E 92 [.str w] [] (fun o => o = fieldR (fieldIx w)) := by
  refine Ctr.body (X := ax g) _ 14 [] [.tmp 2, .tmp 3] Tryz.func92 rfl rfl rfl rfl (by decide +kernel) rfl rfl ?_
  conv => whnf
  refine LoopP.inv (X := ax g) (fun i : Nat => { f := [(0, .str w), (2, .i64 0), (3, .bool false), (5, .i64 i)], h := [] }) (fun i => i ≤ 8 ∧ fieldIx w = fieldGo w ([0, 1, 2, 3, 4, 5, 6, 7].drop i)) (fun i => 8 - i) 0 ⟨by omega, rfl⟩ ⟨⟨rfl, rfl, rfl, rfl, trivial⟩, trivial⟩ fun i hi => ?_
  obtain ⟨hi, he⟩ := hi
  conv => whnf
  repeat' (first | (refine And.intro easyA ?_; conv => whnf) | (refine ifB_intro (fun hA => ?_) (fun hA => ?_) <;> (try rw [hA]) <;> (conv => whnf) <;> (first | replace hA := nrmA hA | replace hA := nrmB hA | replace hA := nrmC hA | replace hA := nrmD hA | replace hA := nrmE hA | replace hA := nrmF hA | skip) <;> (try simp only [ne_eq] at hA)) | (refine CallP.det (name_ctr g i) ?_; conv => whnf) | (refine CallD.det (name_ctr g i) ?_; conv => whnf) | (rw [getD_map _ _ _ _ (by assumption)]; conv => whnf))
  · rename_i h8
    rw [fieldGo_drop w i (by omega), if_pos hA] at he
    refine ⟨⟨[], ?_⟩⟩
    conv => whnf
    rw [he]; rfl
  · rename_i h8
    rw [fieldGo_drop w i (by omega), if_neg hA] at he
    exact ⟨i + 1, ⟨by omega, he⟩, by omega, ⟨⟨rfl, rfl, rfl, AV.int_eq (i64_succ (by omega)), trivial⟩, trivial⟩⟩
  · have : i = 8 := by omega
    subst this
    refine ⟨⟨[], ?_⟩⟩
    conv => whnf
    rw [he]; rfl
def resWords : List (List UInt8) := [[105, 110, 105, 116], [108, 101, 116], [112, 111, 108, 105, 99, 121], [111, 110], [105, 100], [100, 114, 111, 112], [115, 119, 105, 116, 99, 104], [108, 105, 110, 107], [104, 111, 115, 116]]
def reservedS (w : ByteArray) : Bool := resWords.any (fun v => decide (w.data.toList = v)) || (fieldIx w).isSome
theorem reserved_ctr (g : GP) (w : ByteArray) : Ctr (ax g).E 203 [.str w] [] (fun o => o = .ret (.bool (reservedS w)) []) := by
  refine Ctr.body (X := ax g) _ 22 [] [.tmp 2] Tryz.func203 rfl rfl rfl rfl (by decide +kernel) rfl rfl ?_
  conv => whnf
  repeat' (first | (refine And.intro easyA ?_; conv => whnf) | (refine ifB_intro (fun hA => ?_) (fun hA => ?_) <;> (try rw [hA]) <;> (conv => whnf) <;> (first | replace hA := nrmA hA | replace hA := nrmB hA | replace hA := nrmC hA | replace hA := nrmD hA | replace hA := nrmE hA | replace hA := nrmF hA | skip) <;> (try simp only [ne_eq] at hA)) | (refine CallP.det (pfield_ctr g w) ?_; conv => whnf) | (refine CallD.det (pfield_ctr g w) ?_; conv => whnf) | (rw [getD_map _ _ _ _ (by assumption)]; conv => whnf))
  all_goals (refine ⟨⟨[], ?_⟩⟩; (conv => whnf); simp_all [reservedS, resWords])
def nameS (p : SP) : Option (ByteArray × SP) := match nextS p with
  | none => none
  | some (t, q) => if t.kind = 1 ∧ reservedS t.s = false then some (t.s, q) else none
theorem name5_ctr (g : GP) (p : SP) : Ctr (ax g).E 165 [.ptr 9000 0] (spH p) (fun o => o = outP Failed (fun x : ByteArray × SP => .str x.1) (fun x => spH x.2) (nameS p)) := by
  refine Ctr.body (X := ax g) _ 18 [9000, 9001] [.tmp 2] Tryz.func165 rfl rfl rfl rfl (by decide +kernel) rfl rfl ?_
  conv => whnf
  repeat' (first | (refine And.intro easyA ?_; conv => whnf) | (refine ifB_intro (fun hA => ?_) (fun hA => ?_) <;> (try rw [hA]) <;> (conv => whnf) <;> (first | replace hA := nrmA hA | replace hA := nrmB hA | replace hA := nrmC hA | replace hA := nrmD hA | replace hA := nrmE hA | replace hA := nrmF hA | skip) <;> (try simp only [cond_false, ne_eq] at hA)) | (refine CallP.may (snext_ctr g p) (by (conv => whnf); repeat' first | exact trivial | refine And.intro (fun _ h => h) ?_) (fun _ => rfl) (fun hN => ?_) (fun xS hS => ?_) <;> (conv => whnf) <;> (try refine ⟨⟨[], trivial, rfl, ?_⟩⟩)) | (refine CallP.fails (fail_ctr g) ?_; (conv => whnf); refine ⟨⟨[], trivial, rfl, ?_⟩⟩) | (refine CallP.det (reserved_ctr g _) ?_; conv => whnf) | (refine CallD.det (reserved_ctr g _) ?_; conv => whnf) | (rw [getD_map _ _ _ _ (by assumption)]; conv => whnf))
  · rw [nameS, hN]; rfl
  · rw [nameS, hS]; simp only [if_neg (fun h : xS.1.kind = 1 ∧ _ => hA h.1)]; rfl
  · rw [nameS, hS]; simp only [if_neg (fun h : xS.1.kind = 1 ∧ reservedS xS.1.s = false => by rw [hA] at h; exact absurd h.2 (by simp))]; rfl
  · rename_i hk
    refine ⟨⟨spH xS.2, ?_⟩⟩
    conv => whnf
    repeat' (first | (refine And.intro easyA ?_; conv => whnf) | (refine ifB_intro (fun hA => ?_) (fun hA => ?_) <;> (try rw [hA]) <;> (conv => whnf) <;> (first | replace hA := nrmA hA | replace hA := nrmB hA | replace hA := nrmC hA | replace hA := nrmD hA | replace hA := nrmE hA | replace hA := nrmF hA | skip) <;> (try simp only [List.length_map, cond_true, cond_false, Bool.not_eq_true', Bool.not_eq_false', beq_iff_eq, beq_eq_false_iff_ne, ne_eq] at hA)) | (refine And.intro ⟨fun o h => h, fun o h => h, trivial⟩ ?_; conv => whnf) | (rw [getD_map _ _ _ _ (by assumption)]; conv => whnf))
    rw [nameS, hS]; simp only [if_pos (And.intro hk hA)]; rfl
def fieldS (p : SP) : Option (Int × SP) := match nextS p with
  | none => none
  | some (t, q) => if t.kind = 1 ∧ (fieldIx t.s).isSome = true then some ((((fieldIx t.s).getD 0 : Nat) : Int), q) else none
theorem field5_ctr (g : GP) (p : SP) : Ctr (ax g).E 208 [.ptr 9000 0] (spH p) (fun o => o = outP Failed (fun x : Int × SP => .i64 x.1) (fun x => spH x.2) (fieldS p)) := by
  refine Ctr.body (X := ax g) _ 24 [9000, 9001] [.tmp 2] Tryz.func208 rfl rfl rfl rfl (by decide +kernel) rfl rfl ?_
  conv => whnf
  repeat' (first | (refine And.intro easyA ?_; conv => whnf) | (refine ifB_intro (fun hA => ?_) (fun hA => ?_) <;> (try rw [hA]) <;> (conv => whnf) <;> (first | replace hA := nrmA hA | replace hA := nrmB hA | replace hA := nrmC hA | replace hA := nrmD hA | replace hA := nrmE hA | replace hA := nrmF hA | skip) <;> (try simp only [cond_false, Bool.not_eq_true', Bool.not_eq_false', ne_eq] at hA)) | (refine CallP.may (snext_ctr g p) (by (conv => whnf); repeat' first | exact trivial | refine And.intro (fun _ h => h) ?_) (fun _ => rfl) (fun hN => ?_) (fun xS hS => ?_) <;> (conv => whnf) <;> (try refine ⟨⟨[], trivial, rfl, ?_⟩⟩)) | (refine CallP.fails (fail_ctr g) ?_; (conv => whnf); refine ⟨⟨[], trivial, rfl, ?_⟩⟩) | (refine CallP.det (pfield_ctr g _) ?_; conv => whnf) | (refine CallD.det (pfield_ctr g _) ?_; conv => whnf) | (rw [getD_map _ _ _ _ (by assumption)]; conv => whnf))
  · rw [fieldS, hN]; rfl
  · rw [fieldS, hS]; simp only [if_neg (fun h : xS.1.kind = 1 ∧ _ => hA h.1)]; rfl
  · rw [fieldS, hS]; simp only [if_neg (fun h : xS.1.kind = 1 ∧ (fieldIx xS.1.s).isSome = true => by rw [hA] at h; exact absurd h.2 (by simp))]; rfl
  · rename_i hk
    refine ⟨⟨spH xS.2, ?_⟩⟩
    conv => whnf
    repeat' (first | (refine And.intro easyA ?_; conv => whnf) | (refine ifB_intro (fun hA => ?_) (fun hA => ?_) <;> (try rw [hA]) <;> (conv => whnf) <;> (first | replace hA := nrmA hA | replace hA := nrmB hA | replace hA := nrmC hA | replace hA := nrmD hA | replace hA := nrmE hA | replace hA := nrmF hA | skip) <;> (try simp only [List.length_map, cond_true, cond_false, Bool.not_eq_true', Bool.not_eq_false', beq_iff_eq, beq_eq_false_iff_ne, ne_eq] at hA)) | (refine And.intro ⟨fun o h => h, fun o h => h, trivial⟩ ?_; conv => whnf) | (rw [getD_map _ _ _ _ (by assumption)]; conv => whnf))
    rw [fieldS, hS]; simp only [if_pos (And.intro hk hA)]; rfl
def nsFind (w : ByteArray) : List (ByteArray × Int) → Nat → Option Nat
  | [], _ => none
  | e :: r, i => match w.data.toList == e.1.data.toList with
    | true => some i
    | false => nsFind w r (i + 1)
def nsGet (ns : List (ByteArray × Int)) (w : ByteArray) : Int := match nsFind w ns 0 with
  | some i => (ns.getD i (w, 0)).2
  | none => 0
def nsHas (ns : List (ByteArray × Int)) (w : ByteArray) : Bool := (nsFind w ns 0).isSome
def nsPut (ns : List (ByteArray × Int)) (w : ByteArray) (n : Int) : List (ByteArray × Int) := match nsFind w ns 0 with
  | some i => ns.set i (w, n)
  | none => ns ++ [(w, n)]
theorem mfind_ns (w : ByteArray) : ∀ (ns : List (ByteArray × Int)) (i : Nat), mfind [.str] [.v (.string w)] (ns.map entN) i = nsFind w ns i
  | [], _ => rfl
  | e :: r, i => by
    have ih := mfind_ns w r (i + 1)
    have he : eqAll [.str] [.v (.string w)] (entN e).1 0 = (w.data.toList == e.1.data.toList) := by simp [eqAll, scEq, entN, D.str]
    rw [List.map_cons, mfind, nsFind, he, ih]
    rfl
theorem mget_ns (ns : List (ByteArray × Int)) (w : ByteArray) : mget [.str] [.v (.string w)] (.v (.int .u16 0)) (ns.map entN) = .u16 (nsGet ns w) := by
  unfold mget nsGet
  rw [mfind_ns]
  cases hf : nsFind w ns 0 with
  | none => rfl
  | some i =>
    have hl : i < (ns.map entN).length := by
      have := (mfind_lt (l := [.str]) (key := [.v (.string w)]) (es := ns.map entN) (i := 0) (j := i) (by rw [mfind_ns]; exact hf)).2
      omega
    have hl2 : i < ns.length := by simpa using hl
    simp [List.getD, hl2, entN]
theorem mhas_ns (ns : List (ByteArray × Int)) (w : ByteArray) : mhas [.str] [.v (.string w)] (ns.map entN) = nsHas ns w := by rw [mhas, mfind_ns]; rfl
theorem mput_ns (ns : List (ByteArray × Int)) (w : ByteArray) (n : Int) : mput [.str] [.v (.string w)] (.v (.int .u16 n)) (ns.map entN) = (nsPut ns w n).map entN := by
  unfold mput nsPut
  rw [mfind_ns]
  cases hf : nsFind w ns 0 with
  | none => simp [entN]
  | some i => simp [entN, List.map_set]
theorem keyOk_ns (w : ByteArray) : KeyOk [.str] [.v (.string w)] := ⟨rfl, ⟨_, rfl⟩, trivial⟩
theorem keysOk_ns (ns : List (ByteArray × Int)) : KeysOk [.str] (ns.map entN) := fun e he => by
  obtain ⟨x, _, rfl⟩ := List.mem_map.1 he
  exact ⟨rfl, ⟨_, rfl⟩, trivial⟩
theorem hasGet_ns (ns : List (ByteArray × Int)) (w : ByteArray) : has (.int .u16) 0 (mget [.str] [.v (.string w)] (.v (.int .u16 0)) (ns.map entN)) := ⟨_, mget_ns ns w⟩
def valueS (p : SP) : Option (Int × SP) := if (hdT p).kind = 2 then numS p else match nameS p with
  | none => none
  | some (w, q) => some (nsGet q.ns w, { q with unk := q.unk || !nsHas q.ns w })
theorem value_ctr (g : GP) (p : SP) : Ctr (ax g).E 209 [.ptr 9000 0] (spH p) (fun o => o = outP Failed (fun x : Int × SP => .d (.u16 x.1)) (fun x => spH x.2) (valueS p)) := by
  have hv := num5_ctr g p
  have hn := name5_ctr g p
  obtain ⟨l, ok, ns, u, w⟩ := p
  cases l with
  | nil => exact ok.not_nil.elim
  | cons t r =>
    refine Ctr.body (X := ax g) _ 37 [9000, 9001] [.tmp 2] Tryz.func209 rfl rfl rfl rfl (by decide +kernel) rfl rfl ?_
    conv => whnf
    repeat' (first | (refine And.intro easyA ?_; conv => whnf) | (refine ifB_intro (fun hA => ?_) (fun hA => ?_) <;> (try rw [hA]) <;> (conv => whnf) <;> (first | replace hA := nrmA hA | replace hA := nrmB hA | replace hA := nrmC hA | replace hA := nrmD hA | replace hA := nrmE hA | replace hA := nrmF hA | skip) <;> (try simp only [List.length_map, cond_true, cond_false, Bool.not_eq_true', Bool.not_eq_false', beq_iff_eq, beq_eq_false_iff_ne, ne_eq] at hA)) | (refine CallP.may (hv) (by (conv => whnf); repeat' first | exact trivial | refine And.intro (fun _ h => h) ?_) (fun _ => rfl) (fun hN => ?_) (fun xS hS => ?_) <;> (conv => whnf) <;> (try refine ⟨⟨[], trivial, rfl, ?_⟩⟩)) | (rw [getD_map _ _ _ _ (by assumption)]; conv => whnf))
    · rw [valueS, if_pos (show (hdT ⟨t :: r, ok, ns, u, w⟩).kind = 2 from hA), hN]; rfl
    · refine ⟨⟨spH xS.2, ?_⟩⟩
      conv => whnf
      repeat' (first | (refine And.intro easyA ?_; conv => whnf) | (refine ifB_intro (fun hA => ?_) (fun hA => ?_) <;> (try rw [hA]) <;> (conv => whnf) <;> (first | replace hA := nrmA hA | replace hA := nrmB hA | replace hA := nrmC hA | replace hA := nrmD hA | replace hA := nrmE hA | replace hA := nrmF hA | skip) <;> (try simp only [List.length_map, cond_true, cond_false, Bool.not_eq_true', Bool.not_eq_false', beq_iff_eq, beq_eq_false_iff_ne, ne_eq] at hA)) | (refine And.intro ⟨fun o h => h, fun o h => h, trivial⟩ ?_; conv => whnf) | (rw [getD_map _ _ _ _ (by assumption)]; conv => whnf))
      rw [valueS, if_pos (show (hdT ⟨t :: r, ok, ns, u, w⟩).kind = 2 from hA), hS]; rfl
    · cases hN : nameS ⟨t :: r, ok, ns, u, w⟩ with
      | none =>
        have hd := hn.none hN
        refine DrawP.any (X := ax g) (by decide +kernel) ?_
        conv => whnf
        repeat' (first | (refine And.intro easyA ?_; conv => whnf) | (refine ifB_intro (fun hA => ?_) (fun hA => ?_) <;> (try rw [hA]) <;> (conv => whnf) <;> (first | replace hA := nrmA hA | replace hA := nrmB hA | replace hA := nrmC hA | replace hA := nrmD hA | replace hA := nrmE hA | replace hA := nrmF hA | skip) <;> (try simp only [List.length_map, cond_true, cond_false, Bool.not_eq_true', Bool.not_eq_false', beq_iff_eq, beq_eq_false_iff_ne, ne_eq] at hA)) | (refine CallP.dies (hd) (by (conv => whnf); repeat' first | exact trivial | refine And.intro (fun _ h => h) ?_) ?_; (conv => whnf); refine ⟨⟨[], trivial, rfl, ?_⟩⟩) | (refine BothP.mk ?_ ?_ <;> conv => whnf) | (rw [getD_map _ _ _ _ (by assumption)]; conv => whnf))
        all_goals (rw [valueS, if_neg (show ¬(hdT ⟨t :: r, ok, ns, u, w⟩).kind = 2 from hA), hN]; rfl)
      | some x =>
        obtain ⟨wd, q⟩ := x
        have hd := hn.some hN
        refine DrawP.join { f := [(0, .ptr 9000 0), (3, .d (.u16 (nsGet q.ns wd))), (4, .bool (nsHas q.ns wd))], h := spH q } (DrawP.any (X := ax g) (by decide +kernel) ?_) ?_
        · conv => whnf
          repeat' (first | (refine And.intro easyA ?_; conv => whnf) | (refine ifB_intro (fun hA => ?_) (fun hA => ?_) <;> (try rw [hA]) <;> (conv => whnf) <;> (first | replace hA := nrmA hA | replace hA := nrmB hA | replace hA := nrmC hA | replace hA := nrmD hA | replace hA := nrmE hA | replace hA := nrmF hA | skip) <;> (try simp only [List.length_map, cond_true, cond_false, Bool.not_eq_true', Bool.not_eq_false', beq_iff_eq, beq_eq_false_iff_ne, ne_eq] at hA)) | (refine CallP.hlb (hd) (by (conv => whnf); repeat' first | exact trivial | refine And.intro (fun _ h => h) ?_) rfl ?_; conv => whnf) | (refine CallD.hlb (hd) (by (conv => whnf); repeat' first | exact trivial | refine And.intro (fun _ h => h) ?_) ?_; conv => whnf) | (refine And.intro (keyOk_ns _) ?_; conv => whnf) | (refine And.intro (keysOk_ns _) ?_; conv => whnf) | (refine And.intro (hasGet_ns _ _) ?_; conv => whnf) | (refine BothP.mk ?_ ?_ <;> conv => whnf) | (rw [getD_map _ _ _ _ (by assumption)]; conv => whnf))
          all_goals exact ⟨⟨rfl, AV.int_eq (congrArg D.int (mget_ns q.ns wd)), AV.bool_eq (mhas_ns q.ns wd), trivial⟩, ⟨fun o h => h, fun o h => h, trivial⟩⟩
        · have hk : valueS ⟨t :: r, ok, ns, u, w⟩ = some (nsGet q.ns wd, { q with unk := q.unk || !nsHas q.ns wd }) := by
            rw [valueS, if_neg (show ¬(hdT ⟨t :: r, ok, ns, u, w⟩).kind = 2 from hA), hN]
          rw [hk]
          conv => whnf
          repeat' (first | (refine And.intro easyA ?_; conv => whnf) | (refine ifB_intro (fun hA => ?_) (fun hA => ?_) <;> (try rw [hA]) <;> (conv => whnf) <;> (first | replace hA := nrmA hA | replace hA := nrmB hA | replace hA := nrmC hA | replace hA := nrmD hA | replace hA := nrmE hA | replace hA := nrmF hA | skip) <;> (try simp only [List.length_map, cond_true, cond_false, Bool.not_eq_true', Bool.not_eq_false', beq_iff_eq, beq_eq_false_iff_ne, ne_eq] at hA)) | (rw [getD_map _ _ _ _ (by assumption)]; conv => whnf))
          all_goals
            refine ⟨⟨spH { q with unk := q.unk || !nsHas q.ns wd }, ?_⟩⟩
            conv => whnf
            refine And.intro ⟨fun o h => by rw [← h]; simp only [objSP, hA]; rfl, fun o h => h, trivial⟩ ?_
            conv => whnf
            rw [hA]; rfl
end Go.Ax

namespace Go.Ax
open Go.Proofs
set_option maxRecDepth 10000
def atB : ByteArray := ⟨#[64]⟩
def eqB : ByteArray := ⟨#[61]⟩
def asB : ByteArray := ⟨#[58, 61]⟩
def partS (sign : ByteArray) (p : SP) : Option (PairT × SP) := (mustS atB p).bind fun p1 => (numS p1).bind fun x => (mustS sign x.2).bind fun p3 => (valueS p3).bind fun y => some (⟨IntKind.i64.wrap x.1, y.1⟩, y.2)
theorem part5_ctr (g : GP) (p : SP) (sign : ByteArray) (hs : sign ≠ ⟨#[]⟩) : Ctr (ax g).E 207 [.ptr 9000 0, .str sign] (spH p) (fun o => o = outP Failed (fun x : PairT × SP => .dagg (rowF x.1)) (fun x => spH x.2) (partS sign p)) := by
  refine Ctr.body (X := ax g) _ 18 [9000, 9001] [.cell 4 106] Tryz.func207 rfl rfl rfl rfl (by decide +kernel) rfl rfl ?_
  conv => whnf
  repeat' (first | (refine And.intro easyA ?_; conv => whnf) | (refine ifB_intro (fun hA => ?_) (fun hA => ?_) <;> (try rw [hA]) <;> (conv => whnf) <;> (first | replace hA := nrmA hA | replace hA := nrmB hA | replace hA := nrmC hA | replace hA := nrmD hA | replace hA := nrmE hA | replace hA := nrmF hA | skip) <;> (try simp only [List.length_map, cond_true, cond_false, Bool.not_eq_true', Bool.not_eq_false', beq_iff_eq, beq_eq_false_iff_ne, ne_eq] at hA)) | (refine CallP.may (must5_ctr g _ atB (by decide)) (by (conv => whnf); repeat' first | exact trivial | refine And.intro (fun _ h => h) ?_) (fun _ => rfl) (fun hN => ?_) (fun xS hS => ?_) <;> (conv => whnf) <;> (try refine ⟨⟨[], trivial, rfl, ?_⟩⟩)) | (refine CallP.may (num5_ctr g _) (by (conv => whnf); repeat' first | exact trivial | refine And.intro (fun _ h => h) ?_) (fun _ => rfl) (fun hN => ?_) (fun xS hS => ?_) <;> (conv => whnf) <;> (try refine ⟨⟨[], trivial, rfl, ?_⟩⟩)) | (refine CallP.may (must5_ctr g _ sign hs) (by (conv => whnf); repeat' first | exact trivial | refine And.intro (fun _ h => h) ?_) (fun _ => rfl) (fun hN => ?_) (fun xS hS => ?_) <;> (conv => whnf) <;> (try refine ⟨⟨[], trivial, rfl, ?_⟩⟩)) | (refine CallP.may (value_ctr g _) (by (conv => whnf); repeat' first | exact trivial | refine And.intro (fun _ h => h) ?_) (fun _ => rfl) (fun hN => ?_) (fun xS hS => ?_) <;> (conv => whnf) <;> (try refine ⟨⟨[], trivial, rfl, ?_⟩⟩)) | (rw [getD_map _ _ _ _ (by assumption)]; conv => whnf))
  all_goals try (simp_all [partS, outP]; done)
  refine ⟨⟨spH xS.2, ?_⟩⟩
  conv => whnf
  repeat' (first | (refine And.intro easyA ?_; conv => whnf) | (refine ifB_intro (fun hA => ?_) (fun hA => ?_) <;> (try rw [hA]) <;> (conv => whnf) <;> (first | replace hA := nrmA hA | replace hA := nrmB hA | replace hA := nrmC hA | replace hA := nrmD hA | replace hA := nrmE hA | replace hA := nrmF hA | skip) <;> (try simp only [List.length_map, cond_true, cond_false, Bool.not_eq_true', Bool.not_eq_false', beq_iff_eq, beq_eq_false_iff_ne, ne_eq] at hA)) | (refine And.intro ⟨fun o h => h, fun o h => h, trivial⟩ ?_; conv => whnf) | (rw [getD_map _ _ _ _ (by assumption)]; conv => whnf))
  simp_all [partS, outP, Option.bind]
  rfl
def listGo {α : Type} (sign : ByteArray) (one : SP → Option (α × SP)) : Nat → List α → SP → Option (List α × SP)
  | 0, _, _ => none
  | n + 1, acc, p => if (takeS sign p).1 = true then (match one (takeS sign p).2 with
    | none => none
    | some (x, q) => listGo sign one n (acc ++ [x]) q) else some (acc, (takeS sign p).2)
def listS {α : Type} (sign : ByteArray) (one : SP → Option (α × SP)) (p : SP) : Option (List α × SP) := match one p with
  | none => none
  | some (x, q) => listGo sign one (q.l.length + 1) [x] q
def Less {α : Type} (one : SP → Option (α × SP)) : Prop := ∀ p x q, one p = some (x, q) → q.l.length < p.l.length
theorem takeS_len {s : ByteArray} {p : SP} : (takeS s p).2.l.length ≤ p.l.length ∧ ((takeS s p).1 = true → (takeS s p).2.l.length < p.l.length) := by
  unfold takeS
  split
  · rename_i h
    obtain ⟨l, ok, ns, u, w⟩ := p
    cases l with
    | nil => exact ok.not_nil.elim
    | cons t r => simp [SP.tl]
  · simp
theorem listGo_more {α : Type} {sign : ByteArray} {one : SP → Option (α × SP)} {n : Nat} {acc : List α} {p : SP} (ht : (takeS sign p).1 = true) {x : α} {q : SP} (h1 : one (takeS sign p).2 = some (x, q)) : listGo sign one (n + 1) acc p = listGo sign one n (acc ++ [x]) q := by
  rw [listGo, if_pos ht, h1]
theorem listGo_dies {α : Type} {sign : ByteArray} {one : SP → Option (α × SP)} {n : Nat} {acc : List α} {p : SP} (ht : (takeS sign p).1 = true) (h1 : one (takeS sign p).2 = none) : listGo sign one (n + 1) acc p = none := by
  rw [listGo, if_pos ht, h1]
theorem listGo_done {α : Type} {sign : ByteArray} {one : SP → Option (α × SP)} {n : Nat} {acc : List α} {p : SP} (ht : (takeS sign p).1 = false) : listGo sign one (n + 1) acc p = some (acc, (takeS sign p).2) := by
  rw [listGo, if_neg (by simp [ht])]
theorem plist_ctr (g : GP) (sign : ByteArray) (hs : sign ≠ ⟨#[]⟩) (f : FuncId) (one : SP → Option (PolT × SP)) (hl : Less one) (N : Nat) (h1 : ∀ p : SP, p.l.length ≤ N → Ctr (ax g).E f [.ptr 9000 0] (spH p) (fun o => o = outP Failed (fun x : PolT × SP => .dagg (rowP4 x.1)) (fun x => spH x.2) (one p))) (p : SP) (hp : p.l.length ≤ N) (hN0 : N ≤ 100000) :
    Ctr (ax g).E 205 [.ptr 9000 0, .str sign, .clo (.func f) [.ptr 9000 0] []] (spH p) (fun o => o = outP Failed (fun x : List PolT × SP => .d (.sl false 4 (x.1.map rowO4))) (fun x => spH x.2) (listS sign one p)) := by
  refine Ctr.loose (rx := fun x : List PolT × SP => .d (.sl true 4 (x.1.map rowO4))) ?_ (fun x q => rfl) fun x w Im ρ v H => by
    cases H with | d _ _ h => exact .d _ _ h.loose
  have hc := h1 p hp
  refine Ctr.body (X := ax g) _ 20 [9000, 9001] [.tmp 6] Tryz.func205 rfl rfl rfl rfl (by decide +kernel) rfl rfl ?_
  conv => whnf
  repeat' (first | (refine And.intro easyA ?_; conv => whnf) | (refine ifB_intro (fun hA => ?_) (fun hA => ?_) <;> (try rw [hA]) <;> (conv => whnf) <;> (first | replace hA := nrmA hA | replace hA := nrmB hA | replace hA := nrmC hA | replace hA := nrmD hA | replace hA := nrmE hA | replace hA := nrmF hA | skip) <;> (try simp only [List.length_map, cond_true, cond_false, Bool.not_eq_true', Bool.not_eq_false', beq_iff_eq, beq_eq_false_iff_ne, ne_eq] at hA)) | (refine CallP.may (hc) (by (conv => whnf); repeat' first | exact trivial | refine And.intro (fun _ h => h) ?_) (fun _ => rfl) (fun hN => ?_) (fun xS hS => ?_) <;> (conv => whnf) <;> (try refine ⟨⟨[], trivial, rfl, ?_⟩⟩)) | (rw [getD_map _ _ _ _ (by assumption)]; conv => whnf))
  · exact .inl (by rw [listS, hN]; rfl)
  · obtain ⟨x0, q0⟩ := xS
    have h0 := hl p x0 q0 hS
    have hL : listS sign one p = listGo sign one (q0.l.length + 1) [x0] q0 := by rw [listS, hS]
    rw [hL]
    generalize hR0 : listGo sign one (q0.l.length + 1) [x0] q0 = R at hL
    refine LoopP.inv (X := ax g) (fun x : Bool × List PolT × SP => bif x.1 then { f := [(0, .ptr 9000 0), (1, .str sign), (2, .clo (.func f) [.ptr 9000 0] []), (7, .msl 18 x.2.1.length 0 x.2.1.length)], h := (18, some (.buf 4 29 (x.2.1.map rowO4))) :: spH x.2.2 } else { f := [(0, .ptr 9000 0), (1, .str sign), (2, .clo (.func f) [.ptr 9000 0] []), (7, .d (.sl true 4 (x.2.1.map rowO4)))], h := spH x.2.2 })
      (fun x => (x.1 = false → 0 < x.2.1.length) ∧ x.2.1.length + x.2.2.l.length ≤ N ∧ ∃ n, x.2.2.l.length < n ∧ listGo sign one n x.2.1 x.2.2 = R) (fun x => x.2.2.l.length) (false, [x0], q0) ⟨fun _ => Nat.one_pos, by show 1 + q0.l.length ≤ N; omega, q0.l.length + 1, Nat.lt_succ_self _, hR0⟩ ⟨⟨rfl, rfl, rfl, congrArg (fun z => AV.d (.sl true 4 [z])) (rowO4_at x0).symm, trivial⟩, ⟨fun o h => h, fun o h => h, trivial⟩⟩ fun x hx => ?_
    obtain ⟨b, acc, q⟩ := x
    obtain ⟨hpos, hq, n, hn, hR⟩ := hx
    replace hpos : b = false → 0 < acc.length := hpos
    replace hq : acc.length + q.l.length ≤ N := hq
    replace hn : q.l.length < n := hn
    replace hR : listGo sign one n acc q = R := hR
    obtain ⟨n, rfl⟩ : ∃ m, n = m + 1 := ⟨n - 1, by omega⟩
    have ht := take_ctr g q sign hs
    have hlen := takeS_len (s := sign) (p := q)
    have hq2 : (takeS sign q).2.l.length ≤ N := by have := hlen.1; omega
    have ho := h1 (takeS sign q).2 hq2
    cases b with
    | false =>
      cases acc with
      | nil => exact absurd (hpos rfl) (by simp)
      | cons a0 acc =>
      conv => whnf
      repeat' (first | (refine And.intro easyA ?_; conv => whnf) | (refine ifB_intro (fun hA => ?_) (fun hA => ?_) <;> (try rw [hA]) <;> (conv => whnf) <;> (first | replace hA := nrmA hA | replace hA := nrmB hA | replace hA := nrmC hA | replace hA := nrmD hA | replace hA := nrmE hA | replace hA := nrmF hA | skip) <;> (try simp only [List.length_map, cond_true, cond_false, Bool.not_eq_true', Bool.not_eq_false', beq_iff_eq, beq_eq_false_iff_ne, ne_eq] at hA)) | (refine CallP.hlb (ht) (by (conv => whnf); repeat' first | exact trivial | refine And.intro (fun _ h => h) ?_) rfl ?_; conv => whnf) | (refine CallD.hlb (ht) (by (conv => whnf); repeat' first | exact trivial | refine And.intro (fun _ h => h) ?_) ?_; conv => whnf) | (refine CallP.may (ho) (by (conv => whnf); repeat' first | exact trivial | refine And.intro (fun _ h => h) ?_) (fun _ => rfl) (fun hN => ?_) (fun xS hS => ?_) <;> (conv => whnf) <;> (try refine ⟨⟨[], trivial, rfl, ?_⟩⟩)) | (rw [getD_map _ _ _ _ (by assumption)]; conv => whnf))
      · rw [listGo_dies hA hN] at hR; subst hR; exact .inl rfl
      · obtain ⟨y, r⟩ := xS
        have hr := hl _ _ _ hS
        simp only [List.length_cons] at hq
        rw [listGo_more hA hS] at hR
        have hlen2 := hlen.2 hA
        repeat' (first | (refine And.intro easyA ?_; conv => whnf) | (refine ifB_intro (fun hA => ?_) (fun hA => ?_) <;> (try rw [hA]) <;> (conv => whnf) <;> (first | replace hA := nrmA hA | replace hA := nrmB hA | replace hA := nrmC hA | replace hA := nrmD hA | replace hA := nrmE hA | replace hA := nrmF hA | skip) <;> (try simp only [List.length_map, cond_true, cond_false, Bool.not_eq_true', Bool.not_eq_false', beq_iff_eq, beq_eq_false_iff_ne, ne_eq] at hA)) | (refine And.intro (by simp only [List.map_cons, List.length_map, List.length_cons, List.length_nil]; omega) ?_; conv => whnf) | (rw [getD_map _ _ _ _ (by assumption)]; conv => whnf))
        refine ⟨(true, (a0 :: acc) ++ [y], r), ⟨fun h => by simp at h, by show ((a0 :: acc) ++ [y]).length + r.l.length ≤ N; simp; omega, n, by show r.l.length < n; omega, hR⟩, by show r.l.length < q.l.length; omega, ⟨rfl, rfl, rfl, ?_, trivial⟩, ⟨fun o h => ?_, fun o h => h, fun o h => h, trivial⟩⟩
        · exact msl_eq (by simp)
        · rw [← h]; exact congrArg (fun z => some (AObj.buf 4 29 z)) (by rw [← rowO4_at]; simp)
      · rw [listGo_done hA] at hR
        subst hR
        refine ⟨⟨spH (takeS sign q).2, ?_⟩⟩
        conv => whnf
        repeat' (first | (refine And.intro easyA ?_; conv => whnf) | (refine ifB_intro (fun hA => ?_) (fun hA => ?_) <;> (try rw [hA]) <;> (conv => whnf) <;> (first | replace hA := nrmA hA | replace hA := nrmB hA | replace hA := nrmC hA | replace hA := nrmD hA | replace hA := nrmE hA | replace hA := nrmF hA | skip) <;> (try simp only [List.length_map, cond_true, cond_false, Bool.not_eq_true', Bool.not_eq_false', beq_iff_eq, beq_eq_false_iff_ne, ne_eq] at hA)) | (refine And.intro ⟨fun o h => h, fun o h => h, trivial⟩ ?_; conv => whnf) | (rw [getD_map _ _ _ _ (by assumption)]; conv => whnf))
        exact .inl rfl
    | true =>
      conv => whnf
      repeat' (first | (refine And.intro easyA ?_; conv => whnf) | (refine ifB_intro (fun hA => ?_) (fun hA => ?_) <;> (try rw [hA]) <;> (conv => whnf) <;> (first | replace hA := nrmA hA | replace hA := nrmB hA | replace hA := nrmC hA | replace hA := nrmD hA | replace hA := nrmE hA | replace hA := nrmF hA | skip) <;> (try simp only [List.length_map, cond_true, cond_false, Bool.not_eq_true', Bool.not_eq_false', beq_iff_eq, beq_eq_false_iff_ne, ne_eq] at hA)) | (refine CallP.hlb (ht) (by (conv => whnf); repeat' first | exact trivial | refine And.intro (fun _ h => h) ?_) rfl ?_; conv => whnf) | (refine CallD.hlb (ht) (by (conv => whnf); repeat' first | exact trivial | refine And.intro (fun _ h => h) ?_) ?_; conv => whnf) | (refine CallP.may (ho) (by (conv => whnf); repeat' first | exact trivial | refine And.intro (fun _ h => h) ?_) (fun _ => rfl) (fun hN => ?_) (fun xS hS => ?_) <;> (conv => whnf) <;> (try refine ⟨⟨[], trivial, rfl, ?_⟩⟩)) | (rw [getD_map _ _ _ _ (by assumption)]; conv => whnf))
      · rw [listGo_dies hA hN] at hR; subst hR; exact .inl rfl
      · obtain ⟨y, r⟩ := xS
        have hr := hl _ _ _ hS
        rw [listGo_more hA hS] at hR
        have hlen2 := hlen.2 hA
        repeat' (first | (refine And.intro easyA ?_; conv => whnf) | (refine ifB_intro (fun hA => ?_) (fun hA => ?_) <;> (try rw [hA]) <;> (conv => whnf) <;> (first | replace hA := nrmA hA | replace hA := nrmB hA | replace hA := nrmC hA | replace hA := nrmD hA | replace hA := nrmE hA | replace hA := nrmF hA | skip) <;> (try simp only [List.length_map, cond_true, cond_false, Bool.not_eq_true', Bool.not_eq_false', beq_iff_eq, beq_eq_false_iff_ne, ne_eq] at hA)) | (refine And.intro (by first | exact (List.length_map ..).symm | (simp only [List.length_map, List.length_cons, List.length_nil]; omega)) ?_; conv => whnf) | (rw [getD_map _ _ _ _ (by assumption)]; conv => whnf))
        refine ⟨(true, acc ++ [y], r), ⟨fun h => by simp at h, by show (acc ++ [y]).length + r.l.length ≤ N; simp; omega, n, by show r.l.length < n; omega, hR⟩, by show r.l.length < q.l.length; omega, ⟨rfl, rfl, rfl, ?_, trivial⟩, ⟨fun o h => ?_, fun o h => h, fun o h => h, trivial⟩⟩
        · exact msl_eq (by simp)
        · rw [← h]; exact congrArg (fun z => some (AObj.buf 4 29 z)) (by rw [← rowO4_at]; simp)
      · rw [listGo_done hA] at hR
        subst hR
        refine ⟨⟨spH (takeS sign q).2, ?_⟩⟩
        conv => whnf
        repeat' (first | (refine And.intro easyA ?_; conv => whnf) | (refine ifB_intro (fun hA => ?_) (fun hA => ?_) <;> (try rw [hA]) <;> (conv => whnf) <;> (first | replace hA := nrmA hA | replace hA := nrmB hA | replace hA := nrmC hA | replace hA := nrmD hA | replace hA := nrmE hA | replace hA := nrmF hA | skip) <;> (try simp only [List.length_map, cond_true, cond_false, Bool.not_eq_true', Bool.not_eq_false', beq_iff_eq, beq_eq_false_iff_ne, ne_eq] at hA)) | (refine And.intro ⟨fun o h => h, fun o h => h, trivial⟩ ?_; conv => whnf) | (rw [getD_map _ _ _ _ (by assumption)]; conv => whnf))
        repeat' (first | (refine And.intro easyA ?_; conv => whnf) | (refine ifB_intro (fun hA => ?_) (fun hA => ?_) <;> (try rw [hA]) <;> (conv => whnf) <;> (first | replace hA := nrmA hA | replace hA := nrmB hA | replace hA := nrmC hA | replace hA := nrmD hA | replace hA := nrmE hA | replace hA := nrmF hA | skip) <;> (try simp only [List.length_map, cond_true, cond_false, Bool.not_eq_true', Bool.not_eq_false', beq_iff_eq, beq_eq_false_iff_ne, ne_eq] at hA)) | (refine And.intro (by first | exact (List.length_map ..).symm | (simp only [List.length_map, Nat.zero_add]; omega)) ?_; conv => whnf) | (rw [getD_map _ _ _ _ (by assumption)]; conv => whnf))
        refine .inr ?_
        show AOut.ret (.d (.sl false 4 (List.take acc.length (List.drop 0 (acc.map rowO4))))) _ = _
        rw [List.drop_zero, List.take_of_length_le (by simp)]
        rfl
end Go.Ax
