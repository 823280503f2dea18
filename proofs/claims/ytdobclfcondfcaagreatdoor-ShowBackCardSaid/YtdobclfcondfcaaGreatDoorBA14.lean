/- What the card of this claim stands on, or the card itself: for every input, as the given row says. -/
import Derived.Test.YtdobclfcondfcaaGreatDoorBA13

namespace Go.Ax
open Go.Proofs
set_option maxRecDepth 10000
def idB : ByteArray := ⟨#[105, 100]⟩
def dropB : ByteArray := ⟨#[100, 114, 111, 112]⟩
def lparB : ByteArray := ⟨#[40]⟩
def rparB : ByteArray := ⟨#[41]⟩
def bangB : ByteArray := ⟨#[33]⟩
def semiB : ByteArray := ⟨#[59]⟩
def plusB : ByteArray := ⟨#[43]⟩
def joinedS (op : Int) (l : List PolT) : PolT := if l.length = 1 then l.getD 0 (.mk 0 0 0 []) else .mk op 0 0 l
theorem joined_ctr (g : GP) (op : Int) (l : List PolT) : Ctr (ax g).E 204 [.i64 op, .d (.sl false 4 (l.map rowO4))] [] (fun o => o = .ret (.dagg (rowP4 (joinedS op l))) []) := by
  match l with
  | [] =>
    refine Ctr.body (X := ax g) _ 14 [] [.cell 4 29] Tryz.func204 rfl rfl rfl rfl (by decide +kernel) rfl rfl ?_
    conv => whnf
    repeat' (first | (refine And.intro easyA ?_; conv => whnf) | (refine ifB_intro (fun hA => ?_) (fun hA => ?_) <;> (try rw [hA]) <;> (conv => whnf) <;> (first | replace hA := nrmA hA | replace hA := nrmB hA | replace hA := nrmC hA | replace hA := nrmD hA | replace hA := nrmE hA | replace hA := nrmF hA | skip) <;> (try simp only [List.length_map, cond_true, cond_false, Bool.not_eq_true', Bool.not_eq_false', beq_iff_eq, beq_eq_false_iff_ne, ne_eq] at hA)) | (rw [getD_map _ _ _ _ (by assumption)]; conv => whnf))
    refine ⟨⟨[], ?_⟩⟩
    conv => whnf
    repeat' (first | (refine And.intro easyA ?_; conv => whnf) | (refine ifB_intro (fun hA => ?_) (fun hA => ?_) <;> (try rw [hA]) <;> (conv => whnf) <;> (first | replace hA := nrmA hA | replace hA := nrmB hA | replace hA := nrmC hA | replace hA := nrmD hA | replace hA := nrmE hA | replace hA := nrmF hA | skip) <;> (try simp only [List.length_map, cond_true, cond_false, Bool.not_eq_true', Bool.not_eq_false', beq_iff_eq, beq_eq_false_iff_ne, ne_eq] at hA)) | (rw [getD_map _ _ _ _ (by assumption)]; conv => whnf))
    rfl
  | [x] =>
    refine Ctr.body (X := ax g) _ 14 [] [.cell 4 29] Tryz.func204 rfl rfl rfl rfl (by decide +kernel) rfl rfl ?_
    conv => whnf
    repeat' (first | (refine And.intro easyA ?_; conv => whnf) | (refine ifB_intro (fun hA => ?_) (fun hA => ?_) <;> (try rw [hA]) <;> (conv => whnf) <;> (first | replace hA := nrmA hA | replace hA := nrmB hA | replace hA := nrmC hA | replace hA := nrmD hA | replace hA := nrmE hA | replace hA := nrmF hA | skip) <;> (try simp only [List.length_map, cond_true, cond_false, Bool.not_eq_true', Bool.not_eq_false', beq_iff_eq, beq_eq_false_iff_ne, ne_eq] at hA)) | (rw [show (List.map rowO4 [x]).getD (Int.toNat 0) [] = rowP4 x from rowO4_at x]; conv => whnf) | (rw [getD_map _ _ _ _ (by assumption)]; conv => whnf))
    refine ⟨⟨[], ?_⟩⟩
    conv => whnf
    repeat' (first | (refine And.intro easyA ?_; conv => whnf) | (refine ifB_intro (fun hA => ?_) (fun hA => ?_) <;> (try rw [hA]) <;> (conv => whnf) <;> (first | replace hA := nrmA hA | replace hA := nrmB hA | replace hA := nrmC hA | replace hA := nrmD hA | replace hA := nrmE hA | replace hA := nrmF hA | skip) <;> (try simp only [List.length_map, cond_true, cond_false, Bool.not_eq_true', Bool.not_eq_false', beq_iff_eq, beq_eq_false_iff_ne, ne_eq] at hA)) | (rw [getD_map _ _ _ _ (by assumption)]; conv => whnf))
    rfl
  | x :: y :: l =>
    refine Ctr.body (X := ax g) _ 14 [] [.cell 4 29] Tryz.func204 rfl rfl rfl rfl (by decide +kernel) rfl rfl ?_
    conv => whnf
    repeat' (first | (refine And.intro easyA ?_; conv => whnf) | (refine ifB_intro (fun hA => ?_) (fun hA => ?_) <;> (try rw [hA]) <;> (conv => whnf) <;> (first | replace hA := nrmA hA | replace hA := nrmB hA | replace hA := nrmC hA | replace hA := nrmD hA | replace hA := nrmE hA | replace hA := nrmF hA | skip) <;> (try simp only [List.length_map, cond_true, cond_false, Bool.not_eq_true', Bool.not_eq_false', beq_iff_eq, beq_eq_false_iff_ne, ne_eq] at hA)) | (rw [getD_map _ _ _ _ (by assumption)]; conv => whnf))
    refine ⟨⟨[], ?_⟩⟩
    conv => whnf
    repeat' (first | (refine And.intro easyA ?_; conv => whnf) | (refine ifB_intro (fun hA => ?_) (fun hA => ?_) <;> (try rw [hA]) <;> (conv => whnf) <;> (first | replace hA := nrmA hA | replace hA := nrmB hA | replace hA := nrmC hA | replace hA := nrmD hA | replace hA := nrmE hA | replace hA := nrmF hA | skip) <;> (try simp only [List.length_map, cond_true, cond_false, Bool.not_eq_true', Bool.not_eq_false', beq_iff_eq, beq_eq_false_iff_ne, ne_eq] at hA)) | (rw [getD_map _ _ _ _ (by assumption)]; conv => whnf))
    rw [joinedS, if_neg (by simp)]; rfl
def atomS (sum : SP → Option (PolT × SP)) (p : SP) : Option (PolT × SP) :=
  let a := takeS idB p
  if a.1 = true then some (.mk 1 0 0 [], a.2) else
  let b := takeS dropB a.2
  if b.1 = true then some (.mk 0 0 0 [], b.2) else
  let c := takeS lparB b.2
  if c.1 = true then (sum c.2).bind fun x => (mustS rparB x.2).bind fun q => some (x.1, q) else
  if (peekS c.2).data.toList = [64] then (partS eqB c.2).bind fun x => some (.mk 3 x.1.1 x.1.2 [], x.2) else
  (fieldS c.2).bind fun f =>
  let d := takeS asB f.2
  if d.1 = true then (valueS d.2).bind fun v => some (.mk 5 f.1 v.1 [], v.2) else
  (mustS eqB d.2).bind fun q => (valueS q).bind fun v => some (.mk 2 f.1 v.1 [], v.2)
theorem nextS_len {p : SP} {t : TokT} {q : SP} (h : nextS p = some (t, q)) : q.l.length < p.l.length := by
  unfold nextS at h
  split at h
  · simp at h
  · injection h with h
    injection h with h1 h2
    subst h2
    obtain ⟨l, ok, ns, u, w⟩ := p
    cases l with
    | nil => exact ok.not_nil.elim
    | cons t r => simp [SP.tl]
theorem mustS_len {s : ByteArray} {p q : SP} (h : mustS s p = some q) : q.l.length < p.l.length := by
  unfold mustS at h
  split at h
  · rename_i ht; injection h with h; subst h; exact takeS_len.2 ht
  · simp at h
theorem numS_len {p : SP} {n : Int} {q : SP} (h : numS p = some (n, q)) : q.l.length < p.l.length := by
  unfold numS at h
  split at h
  · simp at h
  · rename_i t r hn
    split at h
    · injection h with h; injection h with h1 h2; subst h2; exact nextS_len hn
    · simp at h
theorem nameS_len {p : SP} {n : ByteArray} {q : SP} (h : nameS p = some (n, q)) : q.l.length < p.l.length := by
  unfold nameS at h
  split at h
  · simp at h
  · rename_i t r hn
    split at h
    · injection h with h; injection h with h1 h2; subst h2; exact nextS_len hn
    · simp at h
theorem fieldS_len {p : SP} {n : Int} {q : SP} (h : fieldS p = some (n, q)) : q.l.length < p.l.length := by
  unfold fieldS at h
  split at h
  · simp at h
  · rename_i t r hn
    split at h
    · injection h with h; injection h with h1 h2; subst h2; exact nextS_len hn
    · simp at h
theorem valueS_len {p : SP} {n : Int} {q : SP} (h : valueS p = some (n, q)) : q.l.length < p.l.length := by
  unfold valueS at h
  split at h
  · exact numS_len h
  · split at h
    · simp at h
    · rename_i w r hn
      injection h with h; injection h with h1 h2; subst h2; exact nameS_len (q := r) hn
theorem partS_len {s : ByteArray} {p : SP} {x : PairT} {q : SP} (h : partS s p = some (x, q)) : q.l.length < p.l.length := by
  simp only [partS, Option.bind_eq_some_iff] at h
  obtain ⟨p1, h1, x1, h2, p3, h3, y, h4, h5⟩ := h
  injection h5 with h5; injection h5 with _ h5; subst h5
  have a1 := mustS_len h1
  have a2 := numS_len h2
  have a3 := mustS_len h3
  have a4 := valueS_len h4
  omega
theorem listGo_len {α : Type} {sign : ByteArray} {one : SP → Option (α × SP)} (h1 : Less one) : ∀ {n : Nat} {acc : List α} {p : SP} {x : List α} {q : SP}, listGo sign one n acc p = some (x, q) → q.l.length ≤ p.l.length
  | 0, _, _, _, _, h => by simp [listGo] at h
  | n + 1, acc, p, x, q, h => by
    rw [listGo] at h
    have := takeS_len (s := sign) (p := p)
    split at h
    · split at h
      · simp at h
      · rename_i y r hr
        have h2 := listGo_len h1 h
        have h3 := h1 _ _ _ hr
        omega
    · injection h with h; injection h with _ h; subst h; exact this.1
theorem listS_len {α : Type} {sign : ByteArray} {one : SP → Option (α × SP)} (h1 : Less one) : Less (listS sign one) := fun p x q h => by
  unfold listS at h
  split at h
  · simp at h
  · rename_i y r hr
    have h2 := listGo_len h1 h
    have h3 := h1 _ _ _ hr
    omega
theorem atomS_len {sum : SP → Option (PolT × SP)} (hs : Less sum) : Less (atomS sum) := fun p x q h => by
  simp only [atomS] at h
  have h1 := takeS_len (s := idB) (p := p)
  have h2 := takeS_len (s := dropB) (p := (takeS idB p).2)
  have h3 := takeS_len (s := lparB) (p := (takeS dropB (takeS idB p).2).2)
  split at h
  · rename_i ht; injection h with h; injection h with _ h; subst h; exact h1.2 ht
  · split at h
    · rename_i ht; injection h with h; injection h with _ h; subst h; have := h2.2 ht; omega
    · split at h
      · rename_i ht
        simp only [Option.bind_eq_some_iff] at h
        obtain ⟨y, e1, r, e2, e3⟩ := h
        injection e3 with e3; injection e3 with _ e3; subst e3
        have := hs _ _ _ e1
        have := mustS_len e2
        omega
      · split at h
        · simp only [Option.bind_eq_some_iff] at h
          obtain ⟨y, e1, e3⟩ := h
          injection e3 with e3; injection e3 with _ e3; subst e3
          have := partS_len e1
          omega
        · simp only [Option.bind_eq_some_iff] at h
          obtain ⟨y, e1, h⟩ := h
          have a1 := fieldS_len e1
          have a2 := takeS_len (s := asB) (p := y.2)
          split at h
          · simp only [Option.bind_eq_some_iff] at h
            obtain ⟨z, e2, e3⟩ := h
            injection e3 with e3; injection e3 with _ e3; subst e3
            have := valueS_len e2
            omega
          · simp only [Option.bind_eq_some_iff] at h
            obtain ⟨z, e2, v, e4, e3⟩ := h
            injection e3 with e3; injection e3 with _ e3; subst e3
            have := mustS_len e2
            have := valueS_len e4
            omega
def unaryS (sum : SP → Option (PolT × SP)) : Nat → SP → Option (PolT × SP)
  | 0, _ => none
  | n + 1, p => if (takeS bangB p).1 = true then (unaryS sum n (takeS bangB p).2).bind fun x => some (.mk 4 0 0 [x.1], x.2) else atomS sum (takeS bangB p).2
def seqS (sum : SP → Option (PolT × SP)) (n : Nat) (p : SP) : Option (PolT × SP) := (listS semiB (unaryS sum n) p).bind fun x => some (joinedS 6 x.1, x.2)
def sumS : Nat → SP → Option (PolT × SP)
  | 0, _ => none
  | n + 1, p => (listS plusB (seqS (sumS n) (n + 1)) p).bind fun x => some (joinedS 7 x.1, x.2)
theorem unaryS_len {sum : SP → Option (PolT × SP)} (hs : Less sum) : ∀ n, Less (unaryS sum n)
  | 0, _, _, _, h => by simp [unaryS] at h
  | n + 1, p, x, q, h => by
    rw [unaryS] at h
    have h1 := takeS_len (s := bangB) (p := p)
    split at h
    · simp only [Option.bind_eq_some_iff] at h
      obtain ⟨y, e1, e3⟩ := h
      injection e3 with e3; injection e3 with _ e3; subst e3
      have := unaryS_len hs n _ _ _ e1
      omega
    · have := atomS_len hs _ _ _ h
      omega
theorem seqS_len {sum : SP → Option (PolT × SP)} (hs : Less sum) (n : Nat) : Less (seqS sum n) := fun p x q h => by
  simp only [seqS, Option.bind_eq_some_iff] at h
  obtain ⟨y, e1, e3⟩ := h
  injection e3 with e3; injection e3 with _ e3; subst e3
  exact listS_len (unaryS_len hs n) _ _ _ e1
theorem sumS_len : ∀ n, Less (sumS n)
  | 0, _, _, _, h => by simp [sumS] at h
  | n + 1, p, x, q, h => by
    simp only [sumS, Option.bind_eq_some_iff] at h
    obtain ⟨y, e1, e3⟩ := h
    injection e3 with e3; injection e3 with _ e3; subst e3
    exact listS_len (seqS_len (sumS_len n) (n + 1)) _ _ _ e1
theorem atom_ctr (g : GP) (sum : SP → Option (PolT × SP)) (N : Nat) (h : ∀ p : SP, p.l.length ≤ N → Ctr (ax g).E 166 [.ptr 9000 0] (spH p) (fun o => o = outP Failed (fun x : PolT × SP => .dagg (rowP4 x.1)) (fun x => spH x.2) (sum p))) (p : SP) (hp : p.l.length ≤ N + 1) :
    Ctr (ax g).E 266 [.ptr 9000 0] (spH p) (fun o => o = outP Failed (fun x : PolT × SP => .dagg (rowP4 x.1)) (fun x => spH x.2) (atomS sum p)) := by
  have k1 := takeS_len (s := idB) (p := p)
  have k2 := takeS_len (s := dropB) (p := (takeS idB p).2)
  have k3 := takeS_len (s := lparB) (p := (takeS dropB (takeS idB p).2).2)
  refine Ctr.row ?_
  refine Ctr.body (X := ax g) _ 47 [9000, 9001] [.cell 2 29] Tryz.func266 rfl rfl rfl rfl (by decide +kernel) rfl rfl ?_
  conv => whnf
  repeat' (first | (refine And.intro easyA ?_; conv => whnf) | (refine ifB_intro (fun hA => ?_) (fun hA => ?_) <;> (try rw [hA]) <;> (conv => whnf) <;> (first | replace hA := nrmA hA | replace hA := nrmB hA | replace hA := nrmC hA | replace hA := nrmD hA | replace hA := nrmE hA | replace hA := nrmF hA | skip) <;> (try simp only [ne_eq] at hA)) | (refine CallP.hlb (take_ctr g _ idB (by decide)) (by (conv => whnf); repeat' first | exact trivial | refine And.intro (fun _ h => h) ?_) rfl ?_; conv => whnf) | (refine CallD.hlb (take_ctr g _ idB (by decide)) (by (conv => whnf); repeat' first | exact trivial | refine And.intro (fun _ h => h) ?_) ?_; conv => whnf) | (refine CallP.hlb (take_ctr g _ dropB (by decide)) (by (conv => whnf); repeat' first | exact trivial | refine And.intro (fun _ h => h) ?_) rfl ?_; conv => whnf) | (refine CallD.hlb (take_ctr g _ dropB (by decide)) (by (conv => whnf); repeat' first | exact trivial | refine And.intro (fun _ h => h) ?_) ?_; conv => whnf) | (refine CallP.hlb (take_ctr g _ lparB (by decide)) (by (conv => whnf); repeat' first | exact trivial | refine And.intro (fun _ h => h) ?_) rfl ?_; conv => whnf) | (refine CallD.hlb (take_ctr g _ lparB (by decide)) (by (conv => whnf); repeat' first | exact trivial | refine And.intro (fun _ h => h) ?_) ?_; conv => whnf) | (refine CallP.hlb (take_ctr g _ asB (by decide)) (by (conv => whnf); repeat' first | exact trivial | refine And.intro (fun _ h => h) ?_) rfl ?_; conv => whnf) | (refine CallD.hlb (take_ctr g _ asB (by decide)) (by (conv => whnf); repeat' first | exact trivial | refine And.intro (fun _ h => h) ?_) ?_; conv => whnf) | (refine CallP.hlb (speek_ctr g _) (by (conv => whnf); repeat' first | exact trivial | refine And.intro (fun _ h => h) ?_) rfl ?_; conv => whnf) | (refine CallD.hlb (speek_ctr g _) (by (conv => whnf); repeat' first | exact trivial | refine And.intro (fun _ h => h) ?_) ?_; conv => whnf) | (refine CallP.may (must5_ctr g _ rparB (by decide)) (by (conv => whnf); repeat' first | exact trivial | refine And.intro (fun _ h => h) ?_) (fun _ => rfl) (fun hN => ?_) (fun xS hS => ?_) <;> (conv => whnf) <;> (try refine ⟨⟨[], trivial, rfl, ?_⟩⟩)) | (refine CallP.may (must5_ctr g _ eqB (by decide)) (by (conv => whnf); repeat' first | exact trivial | refine And.intro (fun _ h => h) ?_) (fun _ => rfl) (fun hN => ?_) (fun xS hS => ?_) <;> (conv => whnf) <;> (try refine ⟨⟨[], trivial, rfl, ?_⟩⟩)) | (refine CallP.may (value_ctr g _) (by (conv => whnf); repeat' first | exact trivial | refine And.intro (fun _ h => h) ?_) (fun _ => rfl) (fun hN => ?_) (fun xS hS => ?_) <;> (conv => whnf) <;> (try refine ⟨⟨[], trivial, rfl, ?_⟩⟩)) | (refine CallP.may (field5_ctr g _) (by (conv => whnf); repeat' first | exact trivial | refine And.intro (fun _ h => h) ?_) (fun _ => rfl) (fun hN => ?_) (fun xS hS => ?_) <;> (conv => whnf) <;> (try refine ⟨⟨[], trivial, rfl, ?_⟩⟩)) | (refine CallP.may (part5_ctr g _ eqB (by decide)) (by (conv => whnf); repeat' first | exact trivial | refine And.intro (fun _ h => h) ?_) (fun _ => rfl) (fun hN => ?_) (fun xS hS => ?_) <;> (conv => whnf) <;> (try refine ⟨⟨[], trivial, rfl, ?_⟩⟩)) | (refine CallP.may (h (takeS lparB (takeS dropB (takeS idB p).2).2).2 (by have := k3.2 hA; omega)) (by (conv => whnf); repeat' first | exact trivial | refine And.intro (fun _ h => h) ?_) (fun _ => rfl) (fun hN => ?_) (fun xS hS => ?_) <;> (conv => whnf) <;> (try refine ⟨⟨[], trivial, rfl, ?_⟩⟩)) | (rw [getD_map _ _ _ _ (by assumption)]; conv => whnf))
  all_goals try (exact .inl ⟨rfl, by simp_all [atomS]⟩)
  refine ⟨⟨spH (takeS idB p).2, ?_⟩⟩
  conv => whnf
  repeat' (first | (refine And.intro easyA ?_; conv => whnf) | (refine ifB_intro (fun hA => ?_) (fun hA => ?_) <;> (try rw [hA]) <;> (conv => whnf) <;> (first | replace hA := nrmA hA | replace hA := nrmB hA | replace hA := nrmC hA | replace hA := nrmD hA | replace hA := nrmE hA | replace hA := nrmF hA | skip) <;> (try simp only [List.length_map, cond_true, cond_false, Bool.not_eq_true', Bool.not_eq_false', beq_iff_eq, beq_eq_false_iff_ne, ne_eq] at hA)) | (refine And.intro ⟨fun o h => h, fun o h => h, trivial⟩ ?_; conv => whnf) | (rw [getD_map _ _ _ _ (by assumption)]; conv => whnf))
  refine .inr ⟨(.mk 1 0 0 [], (takeS idB p).2), _, ?_, ?_, rfl⟩
  · simp_all [atomS]
  · repeat (first | exact trivial | ((conv => whnf); refine And.intro (by first | exact .inl rfl | exact .inr (.inl ⟨rfl, _, _, rfl⟩) | exact .inr (.inr ⟨_, _, _, rfl, rfl⟩) | exact .inr (.inr ⟨_, _, [rowO4 xS.1], congrArg (fun z => D.sl true 4 [z]) (rowO4_at xS.1).symm, rfl⟩)) ?_))
  refine ⟨⟨spH (takeS dropB (takeS idB p).2).2, ?_⟩⟩
  conv => whnf
  repeat' (first | (refine And.intro easyA ?_; conv => whnf) | (refine ifB_intro (fun hA => ?_) (fun hA => ?_) <;> (try rw [hA]) <;> (conv => whnf) <;> (first | replace hA := nrmA hA | replace hA := nrmB hA | replace hA := nrmC hA | replace hA := nrmD hA | replace hA := nrmE hA | replace hA := nrmF hA | skip) <;> (try simp only [List.length_map, cond_true, cond_false, Bool.not_eq_true', Bool.not_eq_false', beq_iff_eq, beq_eq_false_iff_ne, ne_eq] at hA)) | (refine And.intro ⟨fun o h => h, fun o h => h, trivial⟩ ?_; conv => whnf) | (rw [getD_map _ _ _ _ (by assumption)]; conv => whnf))
  refine .inr ⟨(.mk 0 0 0 [], (takeS dropB (takeS idB p).2).2), _, ?_, ?_, rfl⟩
  · simp_all [atomS]
  · repeat (first | exact trivial | ((conv => whnf); refine And.intro (by first | exact .inl rfl | exact .inr (.inl ⟨rfl, _, _, rfl⟩) | exact .inr (.inr ⟨_, _, _, rfl, rfl⟩) | exact .inr (.inr ⟨_, _, [rowO4 xS.1], congrArg (fun z => D.sl true 4 [z]) (rowO4_at xS.1).symm, rfl⟩)) ?_))
  · rename_i x hx
    refine ⟨⟨spH xS, ?_⟩⟩
    conv => whnf
    repeat' (first | (refine And.intro easyA ?_; conv => whnf) | (refine ifB_intro (fun hA => ?_) (fun hA => ?_) <;> (try rw [hA]) <;> (conv => whnf) <;> (first | replace hA := nrmA hA | replace hA := nrmB hA | replace hA := nrmC hA | replace hA := nrmD hA | replace hA := nrmE hA | replace hA := nrmF hA | skip) <;> (try simp only [List.length_map, cond_true, cond_false, Bool.not_eq_true', Bool.not_eq_false', beq_iff_eq, beq_eq_false_iff_ne, ne_eq] at hA)) | (refine And.intro ⟨fun o h => h, fun o h => h, trivial⟩ ?_; conv => whnf) | (rw [getD_map _ _ _ _ (by assumption)]; conv => whnf))
    refine .inr ⟨(x.1, xS), _, ?_, ?_, rfl⟩
    · simp_all [atomS]
    · repeat (first | exact trivial | ((conv => whnf); refine And.intro (by first | exact .inl rfl | exact .inr (.inl ⟨rfl, _, _, rfl⟩) | exact .inr (.inr ⟨_, _, _, rfl, rfl⟩) | exact .inr (.inr ⟨_, _, [rowO4 xS.1], congrArg (fun z => D.sl true 4 [z]) (rowO4_at xS.1).symm, rfl⟩)) ?_))
  · refine ⟨⟨spH xS.2, ?_⟩⟩
    conv => whnf
    repeat' (first | (refine And.intro easyA ?_; conv => whnf) | (refine ifB_intro (fun hA => ?_) (fun hA => ?_) <;> (try rw [hA]) <;> (conv => whnf) <;> (first | replace hA := nrmA hA | replace hA := nrmB hA | replace hA := nrmC hA | replace hA := nrmD hA | replace hA := nrmE hA | replace hA := nrmF hA | skip) <;> (try simp only [List.length_map, cond_true, cond_false, Bool.not_eq_true', Bool.not_eq_false', beq_iff_eq, beq_eq_false_iff_ne, ne_eq] at hA)) | (refine And.intro ⟨fun o h => h, fun o h => h, trivial⟩ ?_; conv => whnf) | (rw [getD_map _ _ _ _ (by assumption)]; conv => whnf))
    refine .inr ⟨(.mk 3 xS.1.1 xS.1.2 [], xS.2), _, ?_, ?_, rfl⟩
    · simp_all [atomS]
    · repeat (first | exact trivial | ((conv => whnf); refine And.intro (by first | exact .inl rfl | exact .inr (.inl ⟨rfl, _, _, rfl⟩) | exact .inr (.inr ⟨_, _, _, rfl, rfl⟩) | exact .inr (.inr ⟨_, _, [rowO4 xS.1], congrArg (fun z => D.sl true 4 [z]) (rowO4_at xS.1).symm, rfl⟩)) ?_))
  · rename_i f hf
    refine ⟨⟨spH xS.2, ?_⟩⟩
    conv => whnf
    repeat' (first | (refine And.intro easyA ?_; conv => whnf) | (refine ifB_intro (fun hA => ?_) (fun hA => ?_) <;> (try rw [hA]) <;> (conv => whnf) <;> (first | replace hA := nrmA hA | replace hA := nrmB hA | replace hA := nrmC hA | replace hA := nrmD hA | replace hA := nrmE hA | replace hA := nrmF hA | skip) <;> (try simp only [List.length_map, cond_true, cond_false, Bool.not_eq_true', Bool.not_eq_false', beq_iff_eq, beq_eq_false_iff_ne, ne_eq] at hA)) | (refine And.intro ⟨fun o h => h, fun o h => h, trivial⟩ ?_; conv => whnf) | (rw [getD_map _ _ _ _ (by assumption)]; conv => whnf))
    refine .inr ⟨(.mk 5 f.1 xS.1 [], xS.2), _, ?_, ?_, rfl⟩
    · simp_all [atomS]
    · repeat (first | exact trivial | ((conv => whnf); refine And.intro (by first | exact .inl rfl | exact .inr (.inl ⟨rfl, _, _, rfl⟩) | exact .inr (.inr ⟨_, _, _, rfl, rfl⟩) | exact .inr (.inr ⟨_, _, [rowO4 xS.1], congrArg (fun z => D.sl true 4 [z]) (rowO4_at xS.1).symm, rfl⟩)) ?_))
  · rename_i f hf q hq
    refine ⟨⟨spH xS.2, ?_⟩⟩
    conv => whnf
    repeat' (first | (refine And.intro easyA ?_; conv => whnf) | (refine ifB_intro (fun hA => ?_) (fun hA => ?_) <;> (try rw [hA]) <;> (conv => whnf) <;> (first | replace hA := nrmA hA | replace hA := nrmB hA | replace hA := nrmC hA | replace hA := nrmD hA | replace hA := nrmE hA | replace hA := nrmF hA | skip) <;> (try simp only [List.length_map, cond_true, cond_false, Bool.not_eq_true', Bool.not_eq_false', beq_iff_eq, beq_eq_false_iff_ne, ne_eq] at hA)) | (refine And.intro ⟨fun o h => h, fun o h => h, trivial⟩ ?_; conv => whnf) | (rw [getD_map _ _ _ _ (by assumption)]; conv => whnf))
    refine .inr ⟨(.mk 2 f.1 xS.1 [], xS.2), _, ?_, ?_, rfl⟩
    · simp_all [atomS]
    · repeat (first | exact trivial | ((conv => whnf); refine And.intro (by first | exact .inl rfl | exact .inr (.inl ⟨rfl, _, _, rfl⟩) | exact .inr (.inr ⟨_, _, _, rfl, rfl⟩) | exact .inr (.inr ⟨_, _, [rowO4 xS.1], congrArg (fun z => D.sl true 4 [z]) (rowO4_at xS.1).symm, rfl⟩)) ?_))
theorem unary_ctr (g : GP) (sum : SP → Option (PolT × SP)) (N : Nat) (h : ∀ p : SP, p.l.length ≤ N → Ctr (ax g).E 166 [.ptr 9000 0] (spH p) (fun o => o = outP Failed (fun x : PolT × SP => .dagg (rowP4 x.1)) (fun x => spH x.2) (sum p))) : ∀ (m : Nat) (p : SP), p.l.length ≤ m → m ≤ N + 1 →
    Ctr (ax g).E 242 [.ptr 9000 0] (spH p) (fun o => o = outP Failed (fun x : PolT × SP => .dagg (rowP4 x.1)) (fun x => spH x.2) (unaryS sum m p))
  | 0, p, hp, _ => by
    obtain ⟨l, ok, ns, u, w⟩ := p
    cases l with
    | nil => exact ok.not_nil.elim
    | cons t r => simp at hp
  | m + 1, p, hp, hm => by
    have ih := unary_ctr g sum N h m
    have k1 := takeS_len (s := bangB) (p := p)
    have ha := atom_ctr g sum N h (takeS bangB p).2 (by omega)
    refine Ctr.row ?_
    refine Ctr.body (X := ax g) _ 11 [9000, 9001] [.cell 2 29] Tryz.func242 rfl rfl rfl rfl (by decide +kernel) rfl rfl ?_
    conv => whnf
    repeat' (first | (refine And.intro easyA ?_; conv => whnf) | (refine ifB_intro (fun hA => ?_) (fun hA => ?_) <;> (try rw [hA]) <;> (conv => whnf) <;> (first | replace hA := nrmA hA | replace hA := nrmB hA | replace hA := nrmC hA | replace hA := nrmD hA | replace hA := nrmE hA | replace hA := nrmF hA | skip) <;> (try simp only [List.length_map, cond_true, cond_false, Bool.not_eq_true', Bool.not_eq_false', beq_iff_eq, beq_eq_false_iff_ne, ne_eq] at hA)) | (refine CallP.hlb (take_ctr g _ bangB (by decide)) (by (conv => whnf); repeat' first | exact trivial | refine And.intro (fun _ h => h) ?_) rfl ?_; conv => whnf) | (refine CallD.hlb (take_ctr g _ bangB (by decide)) (by (conv => whnf); repeat' first | exact trivial | refine And.intro (fun _ h => h) ?_) ?_; conv => whnf) | (refine CallP.may (ih (takeS bangB p).2 (by have := k1.2 hA; omega) (by omega)) (by (conv => whnf); repeat' first | exact trivial | refine And.intro (fun _ h => h) ?_) (fun _ => rfl) (fun hN => ?_) (fun xS hS => ?_) <;> (conv => whnf) <;> (try refine ⟨⟨[], trivial, rfl, ?_⟩⟩)) | (refine CallP.may (ha) (by (conv => whnf); repeat' first | exact trivial | refine And.intro (fun _ h => h) ?_) (fun _ => rfl) (fun hN => ?_) (fun xS hS => ?_) <;> (conv => whnf) <;> (try refine ⟨⟨[], trivial, rfl, ?_⟩⟩)) | (rw [getD_map _ _ _ _ (by assumption)]; conv => whnf))
    all_goals try (exact .inl ⟨rfl, by simp_all [unaryS]⟩)
    · refine ⟨⟨spH xS.2, ?_⟩⟩
      conv => whnf
      repeat' (first | (refine And.intro easyA ?_; conv => whnf) | (refine ifB_intro (fun hA => ?_) (fun hA => ?_) <;> (try rw [hA]) <;> (conv => whnf) <;> (first | replace hA := nrmA hA | replace hA := nrmB hA | replace hA := nrmC hA | replace hA := nrmD hA | replace hA := nrmE hA | replace hA := nrmF hA | skip) <;> (try simp only [List.length_map, cond_true, cond_false, Bool.not_eq_true', Bool.not_eq_false', beq_iff_eq, beq_eq_false_iff_ne, ne_eq] at hA)) | (refine And.intro ⟨fun o h => h, fun o h => h, trivial⟩ ?_; conv => whnf) | (rw [getD_map _ _ _ _ (by assumption)]; conv => whnf))
      refine .inr ⟨(.mk 4 0 0 [xS.1], xS.2), _, ?_, ?_, rfl⟩
      · simp_all [unaryS]
      · repeat (first | exact trivial | ((conv => whnf); refine And.intro (by first | exact .inl rfl | exact .inr (.inl ⟨rfl, _, _, rfl⟩) | exact .inr (.inr ⟨_, _, _, rfl, rfl⟩) | exact .inr (.inr ⟨_, _, [rowO4 xS.1], congrArg (fun z => D.sl true 4 [z]) (rowO4_at xS.1).symm, rfl⟩)) ?_))
    · refine ⟨⟨spH xS.2, ?_⟩⟩
      conv => whnf
      repeat' (first | (refine And.intro easyA ?_; conv => whnf) | (refine ifB_intro (fun hA => ?_) (fun hA => ?_) <;> (try rw [hA]) <;> (conv => whnf) <;> (first | replace hA := nrmA hA | replace hA := nrmB hA | replace hA := nrmC hA | replace hA := nrmD hA | replace hA := nrmE hA | replace hA := nrmF hA | skip) <;> (try simp only [List.length_map, cond_true, cond_false, Bool.not_eq_true', Bool.not_eq_false', beq_iff_eq, beq_eq_false_iff_ne, ne_eq] at hA)) | (refine And.intro ⟨fun o h => h, fun o h => h, trivial⟩ ?_; conv => whnf) | (rw [getD_map _ _ _ _ (by assumption)]; conv => whnf))
      refine .inr ⟨(xS.1, xS.2), _, ?_, ?_, rfl⟩
      · simp_all [unaryS]
      · repeat (first | exact trivial | ((conv => whnf); refine And.intro (by first | exact .inl rfl | exact .inr (.inl ⟨rfl, _, _, rfl⟩) | exact .inr (.inr ⟨_, _, _, rfl, rfl⟩) | exact .inr (.inr ⟨_, _, [rowO4 xS.1], congrArg (fun z => D.sl true 4 [z]) (rowO4_at xS.1).symm, rfl⟩)) ?_))
end Go.Ax

namespace Go.Ax
open Go.Proofs
set_option maxRecDepth 10000
theorem seq_ctr (g : GP) (sum : SP → Option (PolT × SP)) (hs : Less sum) (N : Nat) (hN0 : N + 1 ≤ 100000) (h : ∀ p : SP, p.l.length ≤ N → Ctr (ax g).E 166 [.ptr 9000 0] (spH p) (fun o => o = outP Failed (fun x : PolT × SP => .dagg (rowP4 x.1)) (fun x => spH x.2) (sum p))) (p : SP) (hp : p.l.length ≤ N + 1) :
    Ctr (ax g).E 206 [.ptr 9000 0] (spH p) (fun o => o = outP Failed (fun x : PolT × SP => .dagg (rowP4 x.1)) (fun x => spH x.2) (seqS sum (N + 1) p)) := by
  have hl := plist_ctr g semiB (by decide) 242 (unaryS sum (N + 1)) (unaryS_len hs (N + 1)) (N + 1) (fun q hq => unary_ctr g sum N h (N + 1) q hq (Nat.le_refl _)) p hp hN0
  refine Ctr.body (X := ax g) _ 8 [9000, 9001] [.cell 2 29] Tryz.func206 rfl rfl rfl rfl (by decide +kernel) rfl rfl ?_
  conv => whnf
  repeat' (first | (refine And.intro easyA ?_; conv => whnf) | (refine ifB_intro (fun hA => ?_) (fun hA => ?_) <;> (try rw [hA]) <;> (conv => whnf) <;> (first | replace hA := nrmA hA | replace hA := nrmB hA | replace hA := nrmC hA | replace hA := nrmD hA | replace hA := nrmE hA | replace hA := nrmF hA | skip) <;> (try simp only [List.length_map, cond_true, cond_false, Bool.not_eq_true', Bool.not_eq_false', beq_iff_eq, beq_eq_false_iff_ne, ne_eq] at hA)) | (refine CallP.may (hl) (by (conv => whnf); repeat' first | exact trivial | refine And.intro (fun _ h => h) ?_) (fun _ => rfl) (fun hN => ?_) (fun xS hS => ?_) <;> (conv => whnf) <;> (try refine ⟨⟨[], trivial, rfl, ?_⟩⟩)) | (refine CallP.det (joined_ctr g 6 _) ?_; conv => whnf) | (refine CallD.det (joined_ctr g 6 _) ?_; conv => whnf) | (rw [getD_map _ _ _ _ (by assumption)]; conv => whnf))
  · rw [seqS, hN]; rfl
  · refine ⟨⟨spH xS.2, ?_⟩⟩
    conv => whnf
    repeat' (first | (refine And.intro easyA ?_; conv => whnf) | (refine ifB_intro (fun hA => ?_) (fun hA => ?_) <;> (try rw [hA]) <;> (conv => whnf) <;> (first | replace hA := nrmA hA | replace hA := nrmB hA | replace hA := nrmC hA | replace hA := nrmD hA | replace hA := nrmE hA | replace hA := nrmF hA | skip) <;> (try simp only [List.length_map, cond_true, cond_false, Bool.not_eq_true', Bool.not_eq_false', beq_iff_eq, beq_eq_false_iff_ne, ne_eq] at hA)) | (refine And.intro ⟨fun o h => h, fun o h => h, trivial⟩ ?_; conv => whnf) | (rw [getD_map _ _ _ _ (by assumption)]; conv => whnf))
    rw [seqS, hS]; rfl
theorem sum_ctr (g : GP) : ∀ (N : Nat) (p : SP), p.l.length ≤ N → N ≤ 100000 → Ctr (ax g).E 166 [.ptr 9000 0] (spH p) (fun o => o = outP Failed (fun x : PolT × SP => .dagg (rowP4 x.1)) (fun x => spH x.2) (sumS N p))
  | 0, p, hp, _ => by
    obtain ⟨l, ok, ns, u, w⟩ := p
    cases l with
    | nil => exact ok.not_nil.elim
    | cons t r => simp at hp
  | N + 1, p, hp, hN0 => by
    have ih := sum_ctr g N
    have hl := plist_ctr g plusB (by decide) 206 (seqS (sumS N) (N + 1)) (seqS_len (sumS_len N) (N + 1)) (N + 1) (fun q hq => seq_ctr g (sumS N) (sumS_len N) N hN0 (fun r hr => ih r hr (by omega)) q hq) p hp hN0
    refine Ctr.body (X := ax g) _ 8 [9000, 9001] [.cell 2 29] Tryz.func166 rfl rfl rfl rfl (by decide +kernel) rfl rfl ?_
    conv => whnf
    repeat' (first | (refine And.intro easyA ?_; conv => whnf) | (refine ifB_intro (fun hA => ?_) (fun hA => ?_) <;> (try rw [hA]) <;> (conv => whnf) <;> (first | replace hA := nrmA hA | replace hA := nrmB hA | replace hA := nrmC hA | replace hA := nrmD hA | replace hA := nrmE hA | replace hA := nrmF hA | skip) <;> (try simp only [List.length_map, cond_true, cond_false, Bool.not_eq_true', Bool.not_eq_false', beq_iff_eq, beq_eq_false_iff_ne, ne_eq] at hA)) | (refine CallP.may (hl) (by (conv => whnf); repeat' first | exact trivial | refine And.intro (fun _ h => h) ?_) (fun _ => rfl) (fun hN => ?_) (fun xS hS => ?_) <;> (conv => whnf) <;> (try refine ⟨⟨[], trivial, rfl, ?_⟩⟩)) | (refine CallP.det (joined_ctr g 7 _) ?_; conv => whnf) | (refine CallD.det (joined_ctr g 7 _) ?_; conv => whnf) | (rw [getD_map _ _ _ _ (by assumption)]; conv => whnf))
    · rw [sumS, hN]; rfl
    · refine ⟨⟨spH xS.2, ?_⟩⟩
      conv => whnf
      repeat' (first | (refine And.intro easyA ?_; conv => whnf) | (refine ifB_intro (fun hA => ?_) (fun hA => ?_) <;> (try rw [hA]) <;> (conv => whnf) <;> (first | replace hA := nrmA hA | replace hA := nrmB hA | replace hA := nrmC hA | replace hA := nrmD hA | replace hA := nrmE hA | replace hA := nrmF hA | skip) <;> (try simp only [List.length_map, cond_true, cond_false, Bool.not_eq_true', Bool.not_eq_false', beq_iff_eq, beq_eq_false_iff_ne, ne_eq] at hA)) | (refine And.intro ⟨fun o h => h, fun o h => h, trivial⟩ ?_; conv => whnf) | (rw [getD_map _ _ _ _ (by assumption)]; conv => whnf))
      rw [sumS, hS]; rfl
end Go.Ax

namespace Go.Ax
open Go.Proofs
set_option maxRecDepth 10000
def cmpI (a b : Int) : Int := if a < b then -1 else if b < a then 1 else 0
theorem isNaN_ctr (g : GP) (a : Int) : Ctr (ax g).E 268 [.i64 a] [] (fun o => o = .ret (.bool false) []) := by
  refine Ctr.body (X := ax g) _ 6 [] [.tmp 2] Tryz.func268 rfl rfl rfl rfl (by decide +kernel) rfl rfl ?_
  conv => whnf
  repeat' (first | (refine And.intro easyA ?_; conv => whnf) | (refine ifB_intro (fun hA => ?_) (fun hA => ?_) <;> (try rw [hA]) <;> (conv => whnf) <;> (first | replace hA := nrmA hA | replace hA := nrmB hA | replace hA := nrmC hA | replace hA := nrmD hA | replace hA := nrmE hA | replace hA := nrmF hA | skip) <;> (try simp only [List.length_map, cond_true, cond_false, Bool.not_eq_true', Bool.not_eq_false', beq_iff_eq, beq_eq_false_iff_ne, ne_eq] at hA)) | (rw [getD_map _ _ _ _ (by assumption)]; conv => whnf))
  all_goals (refine ⟨⟨[], ?_⟩⟩; (conv => whnf); first | rfl | simp_all)
theorem compare_ctr (g : GP) (a b : Int) : Ctr (ax g).E 245 [.i64 a, .i64 b] [] (fun o => o = .ret (.i64 (cmpI a b)) []) := by
  refine Ctr.body (X := ax g) _ 20 [] [.tmp 4] Tryz.func245 rfl rfl rfl rfl (by decide +kernel) rfl rfl ?_
  conv => whnf
  repeat' (first | (refine And.intro easyA ?_; conv => whnf) | (refine ifB_intro (fun hA => ?_) (fun hA => ?_) <;> (try rw [hA]) <;> (conv => whnf) <;> (first | replace hA := nrmA hA | replace hA := nrmB hA | replace hA := nrmC hA | replace hA := nrmD hA | replace hA := nrmE hA | replace hA := nrmF hA | skip) <;> (try simp only [List.length_map, cond_true, cond_false, Bool.not_eq_true', Bool.not_eq_false', beq_iff_eq, beq_eq_false_iff_ne, ne_eq] at hA)) | (refine CallP.det (isNaN_ctr g _) ?_; conv => whnf) | (refine CallD.det (isNaN_ctr g _) ?_; conv => whnf) | (rw [getD_map _ _ _ _ (by assumption)]; conv => whnf))
  all_goals (refine ⟨⟨[], ?_⟩⟩; (conv => whnf); simp_all [cmpI]; try omega)
theorem cmpF_ctr (g : GP) (a b : PairT) : Ctr (ax g).E 244 [.dagg (rowF a), .dagg (rowF b)] [] (fun o => o = .ret (.i64 (cmpI a.1 b.1)) []) := by
  refine Ctr.body (X := ax g) _ 10 [] [.tmp 4] Tryz.func244 rfl rfl rfl rfl (by decide +kernel) rfl rfl ?_
  conv => whnf
  repeat' (first | (refine And.intro easyA ?_; conv => whnf) | (refine ifB_intro (fun hA => ?_) (fun hA => ?_) <;> (try rw [hA]) <;> (conv => whnf) <;> (first | replace hA := nrmA hA | replace hA := nrmB hA | replace hA := nrmC hA | replace hA := nrmD hA | replace hA := nrmE hA | replace hA := nrmF hA | skip) <;> (try simp only [List.length_map, cond_true, cond_false, Bool.not_eq_true', Bool.not_eq_false', beq_iff_eq, beq_eq_false_iff_ne, ne_eq] at hA)) | (refine CallP.det (compare_ctr g _ _) ?_; conv => whnf) | (refine CallD.det (compare_ctr g _ _) ?_; conv => whnf) | (rw [getD_map _ _ _ _ (by assumption)]; conv => whnf))
  refine ⟨⟨[], ?_⟩⟩
  conv => whnf
def Rise (l : List PairT) : Prop := ∀ i, i + 1 < l.length → (l.getD i (0, 0)).1 ≤ (l.getD (i + 1) (0, 0)).1
theorem row_at {l : List PairT} {n : Nat} (k : Int) (h : n < l.length) (hk : k.toNat = n) : (l.map rowF).getD k.toNat [] = rowF (l.getD n (0, 0)) := by
  rw [hk]; simp [List.getD, h]
theorem isort_ctr (g : GP) (l : List PairT) (hl : l.length < 20) (hr : Rise l) : Ctr (ax g).E 278 [.d (.sl false 2 (l.map rowF)), .i64 0, .i64 l.length, .clo (.func 244) [] []] [] (fun o => o = .ret (.tup []) []) := by
  refine Ctr.body (X := ax g) _ 53 [] [] Tryz.func278 rfl rfl rfl rfl (by decide +kernel) rfl rfl ?_
  conv => whnf
  repeat' (first | (refine And.intro easyA ?_; conv => whnf) | (refine ifB_intro (fun hA => ?_) (fun hA => ?_) <;> (try rw [hA]) <;> (conv => whnf) <;> (first | replace hA := nrmA hA | replace hA := nrmB hA | replace hA := nrmC hA | replace hA := nrmD hA | replace hA := nrmE hA | replace hA := nrmF hA | skip) <;> (try simp only [List.length_map, cond_true, cond_false, Bool.not_eq_true', Bool.not_eq_false', beq_iff_eq, beq_eq_false_iff_ne, ne_eq] at hA)) | (rw [getD_map _ _ _ _ (by assumption)]; conv => whnf))
  refine LoopP.inv (X := ax g) (fun i : Nat => { f := [(0, .d (.sl false 2 (l.map rowF))), (1, .i64 0), (2, .i64 l.length), (3, .clo (.func 244) [] []), (8, .i64 ((i : Int) + 1))], h := [] }) (fun i => i ≤ l.length + 1) (fun i => l.length + 1 - i) 0 (by omega) ⟨⟨rfl, rfl, rfl, rfl, rfl, trivial⟩, trivial⟩ fun i hi => ?_
  conv => whnf
  repeat' (first | (refine And.intro easyA ?_; conv => whnf) | (refine ifB_intro (fun hA => ?_) (fun hA => ?_) <;> (try rw [hA]) <;> (conv => whnf) <;> (first | replace hA := nrmA hA | replace hA := nrmB hA | replace hA := nrmC hA | replace hA := nrmD hA | replace hA := nrmE hA | replace hA := nrmF hA | skip) <;> (try simp only [List.length_map, cond_true, cond_false, Bool.not_eq_true', Bool.not_eq_false', beq_iff_eq, beq_eq_false_iff_ne, ne_eq] at hA)) | (rw [getD_map _ _ _ _ (by assumption)]; conv => whnf))
  · have hlt : i + 1 < l.length := by omega
    have hle := hr i hlt
    have hc := cmpF_ctr g (l.getD (i + 1) (0, 0)) (l.getD i (0, 0))
    have hk : ¬ cmpI (l.getD (i + 1) (0, 0)).1 (l.getD i (0, 0)).1 < 0 := by unfold cmpI; split <;> (try split) <;> omega
    have e1 : (l.map rowF).getD ((i : Int) + 1).toNat [] = rowF (l.getD (i + 1) (0, 0)) := row_at _ hlt (by omega)
    have e2 : (l.map rowF).getD (IntKind.i64.wrap ((i : Int) + 1 - 1)).toNat [] = rowF (l.getD i (0, 0)) := row_at _ (by omega) (by rw [IntKind.wrap_i64]; omega)
    refine LoopP.rounds (X := ax g) 1 ?_
    conv => whnf
    repeat' (first | (refine And.intro easyA ?_; conv => whnf) | (refine ifB_intro (fun hA => ?_) (fun hA => ?_) <;> (try rw [hA]) <;> (conv => whnf) <;> (first | replace hA := nrmA hA | replace hA := nrmB hA | replace hA := nrmC hA | replace hA := nrmD hA | replace hA := nrmE hA | replace hA := nrmF hA | skip) <;> (try simp only [List.length_map, cond_true, cond_false, Bool.not_eq_true', Bool.not_eq_false', beq_iff_eq, beq_eq_false_iff_ne, ne_eq] at hA)) | (refine DrawP.intro (X := ax g) (id := 4) B278_4 (by kernel_rfl) (by decide +kernel) ?_; conv => whnf) | (rw [e1]; conv => whnf) | (rw [e2]; conv => whnf) | (refine CallP.det (hc) ?_; conv => whnf) | (refine CallD.det (hc) ?_; conv => whnf) | (rw [getD_map _ _ _ _ (by assumption)]; conv => whnf))
    · exact absurd hA hk
    · refine ⟨i + 1, by omega, by omega, ⟨⟨rfl, rfl, rfl, rfl, AV.int_eq (by rw [IntKind.wrap_i64]; omega), trivial⟩, trivial⟩⟩
    · omega
  · refine ⟨⟨[], ?_⟩⟩
    conv => whnf
theorem stable_ctr (g : GP) (l : List PairT) (hl : l.length < 20) (hr : Rise l) : Ctr (ax g).E 267 [.d (.sl false 2 (l.map rowF)), .i64 l.length, .clo (.func 244) [] []] [] (fun o => o = .ret (.tup []) []) := by
  refine Ctr.body (X := ax g) _ 63 [] [] Tryz.func267 rfl rfl rfl rfl (by decide +kernel) rfl rfl ?_
  conv => whnf
  refine LoopP.rounds (X := ax g) 1 ?_
  conv => whnf
  repeat' (first | (refine And.intro easyA ?_; conv => whnf) | (refine ifB_intro (fun hA => ?_) (fun hA => ?_) <;> (try rw [hA]) <;> (conv => whnf) <;> (first | replace hA := nrmA hA | replace hA := nrmB hA | replace hA := nrmC hA | replace hA := nrmD hA | replace hA := nrmE hA | replace hA := nrmF hA | skip) <;> (try simp only [List.length_map, cond_true, cond_false, Bool.not_eq_true', Bool.not_eq_false', beq_iff_eq, beq_eq_false_iff_ne, ne_eq] at hA)) | (refine CallP.det (isort_ctr g l hl hr) ?_; conv => whnf) | (refine CallD.det (isort_ctr g l hl hr) ?_; conv => whnf) | (rw [getD_map _ _ _ _ (by assumption)]; conv => whnf))
  · omega
  · refine LoopP.rounds (X := ax g) 1 ?_
    conv => whnf
    repeat' (first | (refine And.intro easyA ?_; conv => whnf) | (refine ifB_intro (fun hA => ?_) (fun hA => ?_) <;> (try rw [hA]) <;> (conv => whnf) <;> (first | replace hA := nrmA hA | replace hA := nrmB hA | replace hA := nrmC hA | replace hA := nrmD hA | replace hA := nrmE hA | replace hA := nrmF hA | skip) <;> (try simp only [List.length_map, cond_true, cond_false, Bool.not_eq_true', Bool.not_eq_false', beq_iff_eq, beq_eq_false_iff_ne, ne_eq] at hA)) | (rw [getD_map _ _ _ _ (by assumption)]; conv => whnf))
    · omega
    · refine ⟨⟨[], ?_⟩⟩
      conv => whnf
theorem sort_ctr (g : GP) (l : List PairT) (hl : l.length < 20) (hr : Rise l) : Ctr (ax g).E 243 [.d (.sl false 2 (l.map rowF)), .clo (.func 244) [] []] [] (fun o => o = .ret (.tup []) []) := by
  have hs := stable_ctr g l hl hr
  refine Ctr.body (X := ax g) _ 9 [] [] Tryz.func243 rfl rfl rfl rfl (by decide +kernel) rfl rfl ?_
  conv => whnf
  refine CallP.arg (args' := [.d (.sl false 2 (l.map rowF)), .i64 l.length, .clo (.func 244) [] []]) (by simp) (CallP.det hs ?_)
  conv => whnf
  refine ⟨⟨[], ?_⟩⟩
  conv => whnf
def dupAt (l : List PairT) (i : Nat) : Bool := decide ((l.getD (i + 1) (0, 0)).1 = (l.getD i (0, 0)).1)
def dupGo (l : List PairT) : Nat → Bool
  | 0 => false
  | i + 1 => dupGo l i || dupAt l i
def dupS (l : List PairT) : Bool := dupGo l (l.length - 1)
theorem prise_ctr (g : GP) (p : SP) (l : List PairT) (hl : l.length < 20) (hr : Rise l) : Ctr (ax g).E 212 [.ptr 9000 0, .d (.sl false 2 (l.map rowF))] (spH p) (fun o => o = .ret (.d (.sl false 2 (l.map rowF))) (spH { p with twi := p.twi || dupS l })) := by
  refine Ctr.body (X := ax g) _ 36 [9000, 9001] [.tmp 4] Tryz.func212 rfl rfl rfl rfl (by decide +kernel) rfl rfl ?_
  conv => whnf
  repeat' (first | (refine And.intro easyA ?_; conv => whnf) | (refine ifB_intro (fun hA => ?_) (fun hA => ?_) <;> (try rw [hA]) <;> (conv => whnf) <;> (first | replace hA := nrmA hA | replace hA := nrmB hA | replace hA := nrmC hA | replace hA := nrmD hA | replace hA := nrmE hA | replace hA := nrmF hA | skip) <;> (try simp only [List.length_map, cond_true, cond_false, Bool.not_eq_true', Bool.not_eq_false', beq_iff_eq, beq_eq_false_iff_ne, ne_eq] at hA)) | (refine CallP.det (sort_ctr g l hl hr) ?_; conv => whnf) | (refine CallD.det (sort_ctr g l hl hr) ?_; conv => whnf) | (rw [getD_map _ _ _ _ (by assumption)]; conv => whnf))
  refine LoopP.inv (X := ax g) (fun i : Nat => { f := [(0, .ptr 9000 0), (1, .d (.sl false 2 (l.map rowF))), (5, .i64 ((i : Int) + 1))], h := spH { p with twi := p.twi || dupGo l i } }) (fun i => i = 0 ∨ i + 1 ≤ l.length) (fun i => l.length - i) 0 (.inl rfl) ⟨⟨rfl, rfl, rfl, trivial⟩, ⟨fun o h => ?_, fun o h => h, trivial⟩⟩ fun i hi => ?_
  · rw [← h]; simp [objSP, dupGo]; rfl
  · conv => whnf
    repeat' (first | (refine And.intro easyA ?_; conv => whnf) | (refine ifB_intro (fun hA => ?_) (fun hA => ?_) <;> (try rw [hA]) <;> (conv => whnf) <;> (first | replace hA := nrmA hA | replace hA := nrmB hA | replace hA := nrmC hA | replace hA := nrmD hA | replace hA := nrmE hA | replace hA := nrmF hA | skip) <;> (try simp only [List.length_map] at hA)) | (rw [getD_map _ _ _ _ (by assumption)]; conv => whnf))
    · have hlt : i + 1 < l.length := by omega
      have e1 : (l.map rowF).getD ((i : Int) + 1).toNat [] = rowF (l.getD (i + 1) (0, 0)) := row_at _ hlt (by omega)
      have e2 : (l.map rowF).getD (IntKind.i64.wrap ((i : Int) + 1 - 1)).toNat [] = rowF (l.getD i (0, 0)) := row_at _ (by omega) (by rw [IntKind.wrap_i64]; omega)
      repeat' (first | (refine And.intro easyA ?_; conv => whnf) | (refine ifB_intro (fun hA => ?_) (fun hA => ?_) <;> (try rw [hA]) <;> (conv => whnf) <;> (first | replace hA := nrmA hA | replace hA := nrmB hA | replace hA := nrmC hA | replace hA := nrmD hA | replace hA := nrmE hA | replace hA := nrmF hA | skip) <;> (try simp only [] at hA)) | (refine DrawP.intro (X := ax g) (id := 5) B212_5 (by kernel_rfl) (by decide +kernel) ?_; conv => whnf) | (rw [e1]; conv => whnf) | (rw [e2]; conv => whnf) | (rw [getD_map _ _ _ _ (by assumption)]; conv => whnf))
      · have hk : (p.twi || dupGo l (i + 1)) = true := by rw [dupGo, ← Bool.or_assoc, hA]; rfl
        refine ⟨i + 1, .inr (by omega), by omega, ⟨⟨rfl, rfl, AV.int_eq (by rw [IntKind.wrap_i64]; omega), trivial⟩, ⟨fun o h => ?_, fun o h => h, trivial⟩⟩⟩
        rw [← h]; simp only [objSP, hk]; rfl
      · have hk : (p.twi || dupGo l (i + 1)) = dupAt l i := by rw [dupGo, ← Bool.or_assoc, hA]; rfl
        refine ⟨i + 1, .inr (by omega), by omega, ⟨⟨rfl, rfl, AV.int_eq (by rw [IntKind.wrap_i64]; omega), trivial⟩, ⟨fun o h => ?_, fun o h => h, trivial⟩⟩⟩
        rw [← h]; simp only [objSP, hk]; rfl
    · have hi2 : i = l.length - 1 := by omega
      have hd : dupS l = dupGo l i := by rw [dupS, hi2]
      rw [hd]
      refine ⟨⟨spH { p with twi := p.twi || dupGo l i }, ?_⟩⟩
      conv => whnf
      repeat' (first | (refine And.intro easyA ?_; conv => whnf) | (refine ifB_intro (fun hA => ?_) (fun hA => ?_) <;> (try rw [hA]) <;> (conv => whnf) <;> (first | replace hA := nrmA hA | replace hA := nrmB hA | replace hA := nrmC hA | replace hA := nrmD hA | replace hA := nrmE hA | replace hA := nrmF hA | skip) <;> (try simp only [List.length_map, cond_true, cond_false, Bool.not_eq_true', Bool.not_eq_false', beq_iff_eq, beq_eq_false_iff_ne, ne_eq] at hA)) | (refine And.intro ⟨fun o h => h, fun o h => h, trivial⟩ ?_; conv => whnf) | (rw [getD_map _ _ _ _ (by assumption)]; conv => whnf))
end Go.Ax

namespace Go.Ax
open Go.Proofs
set_option maxRecDepth 10000
def p0 : PairT := (0, 0)
def swp2 (l : List PairT) (i j : Nat) : List PairT := (l.set i (l.getD j p0)).set j (l.getD i p0)
theorem swp2_len (l : List PairT) (i j : Nat) : (swp2 l i j).length = l.length := by simp [swp2]
def swrF (l : List PairT) (a b : Nat) : Nat → List PairT
  | 0 => l
  | i + 1 => swp2 (swrF l a b i) (a + i) (b + i)
theorem swrF_len (l : List PairT) (a b : Nat) : ∀ i, (swrF l a b i).length = l.length
  | 0 => rfl
  | i + 1 => by rw [swrF, swp2_len, swrF_len l a b i]
abbrev bufP (l : List PairT) : AObj := .buf 2 106 (l.map rowF)
abbrev mslP (l : List PairT) : AV := .msl 9100 l.length 0 l.length
theorem rows_get (l : List PairT) (i : Nat) (h : i < l.length) : (l.map rowF).getD i [] = rowF (l.getD i p0) := by simp [List.getD, h]
theorem rows_set (l : List PairT) (i : Nat) (p : PairT) : (l.map rowF).set i (rowF p) = (l.set i p).map rowF := by rw [List.map_set]
theorem i64_addN {a b : Nat} (h : a + b < 2 ^ 62) : IntKind.i64.wrap ((a : Int) + (b : Int)) = ((a + b : Nat) : Int) := by rw [IntKind.wrap_i64]; omega
theorem i64_subN {a b : Nat} (h : b ≤ a) (ha : a < 2 ^ 62) : IntKind.i64.wrap ((a : Int) - (b : Int)) = ((a - b : Nat) : Int) := by rw [IntKind.wrap_i64]; omega
theorem rows_getW (l : List PairT) (i : Nat) (h : i < l.length) : (l.map rowF).getD (0 + ((i : Nat) : Int).toNat) [] = rowF (l.getD i p0) := by rw [Nat.zero_add, Int.toNat_natCast, rows_get l i h]
theorem rows_setW (l : List PairT) (i : Nat) (p : PairT) (h : i < l.length) : (l.map rowF).set (0 + ((i : Nat) : Int).toNat) (splice (rowF (l.getD i p0)) (cut 0 2 (rowF p)) 0) = (l.set i p).map rowF := by
  rw [Nat.zero_add, Int.toNat_natCast, ← rows_set]; rfl
theorem swrange_ctr (g : GP) (l : List PairT) (hl : l.length < 2 ^ 40) (a b n : Nat) (ha : a + n ≤ l.length) (hb : b + n ≤ l.length) : Ctr (ax g).E 283 [mslP l, .i64 a, .i64 b, .i64 n, .clo (.func 244) [] []] [(9100, some (bufP l))] (fun o => o = .ret (.tup []) [(9100, some (bufP (swrF l a b n)))]) := by
  refine Ctr.body (X := ax g) _ 38 [9100] [] Tryz.func283 rfl rfl rfl rfl (by decide +kernel) rfl rfl ?_
  conv => whnf
  repeat' (first | (refine And.intro easyA ?_; conv => whnf) | (refine ifB_intro (fun hA => ?_) (fun hA => ?_) <;> (try rw [hA]) <;> (conv => whnf) <;> (first | replace hA := nrmA hA | replace hA := nrmB hA | replace hA := nrmC hA | replace hA := nrmD hA | replace hA := nrmE hA | replace hA := nrmF hA | skip) <;> (try simp only [List.length_map, cond_true, cond_false, Bool.not_eq_true', Bool.not_eq_false', beq_iff_eq, beq_eq_false_iff_ne, ne_eq] at hA)) | (rw [getD_map _ _ _ _ (by assumption)]; conv => whnf))
  refine LoopP.inv (X := ax g) (fun i : Nat => { f := [(0, mslP l), (1, .i64 a), (2, .i64 b), (3, .i64 n), (10, .i64 i)], h := [(9100, some (bufP (swrF l a b i)))] }) (fun i => i ≤ n) (fun i => n - i) 0 (Nat.zero_le _) ⟨⟨rfl, rfl, rfl, rfl, rfl, trivial⟩, ⟨fun o h => h, trivial⟩⟩ fun i hi => ?_
  have hsl := swrF_len l a b i
  generalize hm : swrF l a b i = m at *
  conv => whnf
  refine ifB_intro (fun h => ?_) (fun h => ?_)
  · have h : i < n := by have h0 := of_decide_eq_true h; omega
    have e1 := i64_addN (a := a) (b := i) (by omega)
    have e2 := i64_addN (a := b) (b := i) (by omega)
    have hml : (m.map rowF).length = l.length := by rw [List.length_map, hsl]
    have g1 := rows_getW m (a + i) (by omega)
    have g2 := rows_getW m (b + i) (by omega)
    have s1 := rows_setW m (a + i) (m.getD (b + i) p0) (by omega)
    have g3 := rows_getW (m.set (a + i) (m.getD (b + i) p0)) (b + i) (by rw [List.length_set]; omega)
    have s2 := rows_setW (m.set (a + i) (m.getD (b + i) p0)) (b + i) (m.getD (a + i) p0) (by rw [List.length_set]; omega)
    conv => whnf
    repeat' (first | (refine And.intro easyA ?_; conv => whnf) | (refine ifB_intro (fun hA => ?_) (fun hA => ?_) <;> (try rw [hA]) <;> (conv => whnf) <;> (first | replace hA := nrmA hA | replace hA := nrmB hA | replace hA := nrmC hA | replace hA := nrmD hA | replace hA := nrmE hA | replace hA := nrmF hA | skip) <;> (try simp only [List.length_map, cond_true, cond_false, Bool.not_eq_true', Bool.not_eq_false', beq_iff_eq, beq_eq_false_iff_ne, ne_eq] at hA)) | (refine DrawP.intro (X := ax g) (id := 3) B283_3 (by kernel_rfl) (by decide +kernel) ?_; conv => whnf) | (rw [e1]; conv => whnf) | (rw [e2]; conv => whnf) | (rw [g1]; conv => whnf) | (rw [g2]; conv => whnf) | (refine And.intro (show l.length = (m.map rowF).length by omega) ?_; conv => whnf) | (refine And.intro (show 0 + ((a + i : Nat) : Int).toNat < (m.map rowF).length by omega) ?_; conv => whnf) | (rw [s1, List.length_map, List.length_set, hsl]; conv => whnf) | (rw [s1]; conv => whnf) | (rw [g3]; conv => whnf) | (rw [s2]; conv => whnf) | (refine And.intro (by simp only [List.length_map, List.length_set, hsl] <;> omega) ?_; conv => whnf) | (rw [getD_map _ _ _ _ (by assumption)]; conv => whnf))
    exact ⟨i + 1, by omega, by omega, ⟨⟨rfl, rfl, rfl, rfl, AV.int_eq (i64_succ (by omega)), trivial⟩, ⟨fun o h' => by rw [← h', swrF, hm]; rfl, trivial⟩⟩⟩
  · have h : i = n := by have h0 := of_decide_eq_false h; omega
    subst h
    conv => whnf
    refine ⟨⟨[(9100, some (bufP m))], ?_⟩⟩
    conv => whnf
    repeat' (first | (refine And.intro easyA ?_; conv => whnf) | (refine ifB_intro (fun hA => ?_) (fun hA => ?_) <;> (try rw [hA]) <;> (conv => whnf) <;> (first | replace hA := nrmA hA | replace hA := nrmB hA | replace hA := nrmC hA | replace hA := nrmD hA | replace hA := nrmE hA | replace hA := nrmF hA | skip) <;> (try simp only [List.length_map, cond_true, cond_false, Bool.not_eq_true', Bool.not_eq_false', beq_iff_eq, beq_eq_false_iff_ne, ne_eq] at hA)) | (refine And.intro ⟨fun o h => h, trivial⟩ ?_; conv => whnf) | (rw [getD_map _ _ _ _ (by assumption)]; conv => whnf))
    rw [hm]
end Go.Ax

namespace Go.Ax
open Go.Proofs
set_option maxRecDepth 10000
def ltP (l : List PairT) (i j : Nat) : Bool := decide ((l.getD i p0).1 < (l.getD j p0).1)
theorem cmp_lt (a b : Int) : (cmpI a b < 0) ↔ a < b := by unfold cmpI; split <;> (try split) <;> omega
def insIn (a : Nat) : Nat → List PairT → List PairT
  | 0, l => l
  | j + 1, l => if a < j + 1 ∧ ltP l (j + 1) j = true then insIn a j (swp2 l (j + 1) j) else l
theorem insIn_len (a : Nat) : ∀ j l, (insIn a j l).length = l.length
  | 0, l => rfl
  | j + 1, l => by
    rw [insIn]
    split
    · rw [insIn_len a j, swp2_len]
    · rfl
def insN (l : List PairT) (a : Nat) : Nat → List PairT
  | 0 => l
  | k + 1 => insIn a (a + 1 + k) (insN l a k)
theorem insN_len (l : List PairT) (a : Nat) : ∀ k, (insN l a k).length = l.length
  | 0 => rfl
  | k + 1 => by rw [insN, insIn_len, insN_len l a k]
def insF (l : List PairT) (a b : Nat) : List PairT := insN l a (b - a - 1)
theorem insF_len (l : List PairT) (a b : Nat) : (insF l a b).length = l.length := insN_len l a _
theorem i64_pred {j : Nat} (h : j + 1 < 2 ^ 62) : IntKind.i64.wrap (((j + 1 : Nat) : Int) - 1) = ((j : Nat) : Int) := by rw [IntKind.wrap_i64]; omega
theorem inssort_ctr (g : GP) (l : List PairT) (hl : l.length < 2 ^ 40) (a b : Nat) (hab : a ≤ b) (hb : b ≤ l.length) : Ctr (ax g).E 278 [mslP l, .i64 a, .i64 b, .clo (.func 244) [] []] [(9100, some (bufP l))] (fun o => o = .ret (.tup []) [(9100, some (bufP (insF l a b)))]) := by
  refine Ctr.body (X := ax g) _ 53 [9100] [] Tryz.func278 rfl rfl rfl rfl (by decide +kernel) rfl rfl ?_
  conv => whnf
  repeat' (first | (refine And.intro easyA ?_; conv => whnf) | (refine ifB_intro (fun hA => ?_) (fun hA => ?_) <;> (try rw [hA]) <;> (conv => whnf) <;> (first | replace hA := nrmA hA | replace hA := nrmB hA | replace hA := nrmC hA | replace hA := nrmD hA | replace hA := nrmE hA | replace hA := nrmF hA | skip) <;> (try simp only [List.length_map, cond_true, cond_false, Bool.not_eq_true', Bool.not_eq_false', beq_iff_eq, beq_eq_false_iff_ne, ne_eq] at hA)) | (rw [getD_map _ _ _ _ (by assumption)]; conv => whnf))
  refine LoopP.inv (X := ax g) (fun k : Nat => { f := [(0, mslP l), (1, .i64 a), (2, .i64 b), (3, .clo (.func 244) [] []), (8, .i64 ((a + 1 + k : Nat) : Int))], h := [(9100, some (bufP (insN l a k)))] }) (fun k => k ≤ b - a - 1) (fun k => b - a - 1 - k) 0 (Nat.zero_le _) ⟨⟨rfl, rfl, rfl, rfl, AV.int_eq (by rw [i64_succ (by omega)]), trivial⟩, ⟨fun o h => h, trivial⟩⟩ fun k hk => ?_
  have hsl := insN_len l a k
  generalize hm : insN l a k = m at *
  conv => whnf
  refine ifB_intro (fun h => ?_) (fun h => ?_)
  · have h : a + 1 + k < b := by have h0 := of_decide_eq_true h; omega
    have hnx : insN l a (k + 1) = insIn a (a + 1 + k) m := by rw [insN, hm]
    conv => whnf
    refine LoopP.inv (X := ax g) (fun x : Nat × List PairT => { f := [(0, mslP l), (1, .i64 a), (2, .i64 b), (3, .clo (.func 244) [] []), (8, .i64 ((a + 1 + k : Nat) : Int)), (9, .i64 x.1)], h := [(9100, some (bufP x.2))] }) (fun x => x.1 ≤ a + 1 + k ∧ x.2.length = l.length ∧ insIn a x.1 x.2 = insN l a (k + 1)) (fun x => x.1) (a + 1 + k, m) ⟨Nat.le_refl _, hsl, hnx.symm⟩ ⟨⟨rfl, rfl, rfl, rfl, rfl, rfl, trivial⟩, ⟨fun o h => h, trivial⟩⟩ fun ⟨j, q⟩ ⟨hj, hq, hR⟩ => ?_
    dsimp only at hj hq hR ⊢
    have hqm : (q.map rowF).length = l.length := by rw [List.length_map, hq]
    cases j with
    | zero =>
      conv => whnf
      repeat' (first | (refine And.intro easyA ?_; conv => whnf) | (refine ifB_intro (fun hA => ?_) (fun hA => ?_) <;> (try rw [hA]) <;> (conv => whnf) <;> (first | replace hA := nrmA hA | replace hA := nrmB hA | replace hA := nrmC hA | replace hA := nrmD hA | replace hA := nrmE hA | replace hA := nrmF hA | skip) <;> (try simp only [List.length_map, cond_true, cond_false, Bool.not_eq_true', Bool.not_eq_false', beq_iff_eq, beq_eq_false_iff_ne, ne_eq] at hA)) | (refine DrawP.intro (X := ax g) (id := 4) B278_4 (by kernel_rfl) (by decide +kernel) ?_; conv => whnf) | (rw [getD_map _ _ _ _ (by assumption)]; conv => whnf))
      exact ⟨k + 1, by omega, by omega, ⟨⟨rfl, rfl, rfl, rfl, AV.int_eq (i64_succ (by omega)), trivial⟩, ⟨fun o h' => by rw [← h', ← hR]; rfl, trivial⟩⟩⟩
    | succ j =>
      have e1 := i64_pred (j := j) (by omega)
      have g1 := rows_getW q (j + 1) (by omega)
      have g2 := rows_getW q j (by omega)
      have s1 := rows_setW q (j + 1) (q.getD j p0) (by omega)
      have g3 := rows_getW (q.set (j + 1) (q.getD j p0)) j (by rw [List.length_set]; omega)
      have s2 := rows_setW (q.set (j + 1) (q.getD j p0)) j (q.getD (j + 1) p0) (by rw [List.length_set]; omega)
      have hc := cmpF_ctr g (q.getD (j + 1) p0) (q.getD j p0)
      conv => whnf
      repeat' (first | (refine And.intro easyA ?_; conv => whnf) | (refine ifB_intro (fun hA => ?_) (fun hA => ?_) <;> (try rw [hA]) <;> (conv => whnf) <;> (first | replace hA := nrmA hA | replace hA := nrmB hA | replace hA := nrmC hA | replace hA := nrmD hA | replace hA := nrmE hA | replace hA := nrmF hA | skip) <;> (try simp only [List.length_map, cond_true, cond_false, Bool.not_eq_true', Bool.not_eq_false', beq_iff_eq, beq_eq_false_iff_ne, ne_eq] at hA)) | (refine DrawP.intro (X := ax g) (id := 4) B278_4 (by kernel_rfl) (by decide +kernel) ?_; conv => whnf) | (rw [e1]; conv => whnf) | (rw [g1]; conv => whnf) | (rw [g2]; conv => whnf) | (refine CallP.det (hc) ?_; conv => whnf) | (refine CallD.det (hc) ?_; conv => whnf) | (refine DrawP.intro (X := ax g) (id := 6) B278_6 (by kernel_rfl) (by decide +kernel) ?_; conv => whnf) | (refine And.intro (show l.length = (q.map rowF).length by omega) ?_; conv => whnf) | (refine And.intro (show 0 + ((j + 1 : Nat) : Int).toNat < (q.map rowF).length by omega) ?_; conv => whnf) | (rw [s1, List.length_map, List.length_set, hq]; conv => whnf) | (rw [s1]; conv => whnf) | (rw [g3]; conv => whnf) | (rw [s2]; conv => whnf) | (refine And.intro (by simp only [List.length_map, List.length_set, hq] <;> omega) ?_; conv => whnf) | (rw [getD_map _ _ _ _ (by assumption)]; conv => whnf))
      · rename_i hA0
        have hc2 : a < j + 1 ∧ ltP q (j + 1) j = true := ⟨by omega, decide_eq_true ((cmp_lt _ _).1 hA)⟩
        rw [insIn, if_pos hc2] at hR
        exact ⟨(j, swp2 q (j + 1) j), ⟨by show j ≤ _; omega, by rw [swp2_len]; exact hq, hR⟩, by show j < j + 1; omega, ⟨⟨rfl, rfl, rfl, rfl, rfl, rfl, trivial⟩, ⟨fun o h' => h', trivial⟩⟩⟩
      · have hc2 : ¬ (a < j + 1 ∧ ltP q (j + 1) j = true) := fun hh => hA ((cmp_lt _ _).2 (of_decide_eq_true hh.2))
        rw [insIn, if_neg hc2] at hR
        exact ⟨k + 1, by omega, by omega, ⟨⟨rfl, rfl, rfl, rfl, AV.int_eq (i64_succ (by omega)), trivial⟩, ⟨fun o h' => by rw [← h', ← hR]; rfl, trivial⟩⟩⟩
      · have hc2 : ¬ (a < j + 1 ∧ ltP q (j + 1) j = true) := fun hh => hA (by omega)
        rw [insIn, if_neg hc2] at hR
        exact ⟨k + 1, by omega, by omega, ⟨⟨rfl, rfl, rfl, rfl, AV.int_eq (i64_succ (by omega)), trivial⟩, ⟨fun o h' => by rw [← h', ← hR]; rfl, trivial⟩⟩⟩
  · have h : k = b - a - 1 := by have h0 := of_decide_eq_false h; omega
    subst h
    conv => whnf
    refine ⟨⟨[(9100, some (bufP m))], ?_⟩⟩
    conv => whnf
    repeat' (first | (refine And.intro easyA ?_; conv => whnf) | (refine ifB_intro (fun hA => ?_) (fun hA => ?_) <;> (try rw [hA]) <;> (conv => whnf) <;> (first | replace hA := nrmA hA | replace hA := nrmB hA | replace hA := nrmC hA | replace hA := nrmD hA | replace hA := nrmE hA | replace hA := nrmF hA | skip) <;> (try simp only [List.length_map, cond_true, cond_false, Bool.not_eq_true', Bool.not_eq_false', beq_iff_eq, beq_eq_false_iff_ne, ne_eq] at hA)) | (refine And.intro ⟨fun o h => h, trivial⟩ ?_; conv => whnf) | (rw [getD_map _ _ _ _ (by assumption)]; conv => whnf))
    rw [← hm]; rfl
end Go.Ax

namespace Go.Ax
open Go.Proofs
set_option maxRecDepth 10000
def rotG (m : Nat) : Nat → List PairT → Nat → Nat → List PairT
  | 0, l, _, _ => l
  | f + 1, l, i, j => if i = j then swrF l (m - i) m i else if j < i then rotG m f (swrF l (m - i) m j) (i - j) j else rotG m f (swrF l (m - i) (m + j - i) i) i (j - i)
theorem rotG_len (m : Nat) : ∀ f l i j, (rotG m f l i j).length = l.length
  | 0, l, i, j => rfl
  | f + 1, l, i, j => by
    rw [rotG]
    split
    · exact swrF_len _ _ _ _
    · split
      · rw [rotG_len m f, swrF_len]
      · rw [rotG_len m f, swrF_len]
def rotF (l : List PairT) (a m b : Nat) : List PairT := rotG m (b - a) l (m - a) (b - m)
theorem rotF_len (l : List PairT) (a m b : Nat) : (rotF l a m b).length = l.length := rotG_len _ _ _ _ _
theorem rotate_ctr (g : GP) (l : List PairT) (hl : l.length < 2 ^ 40) (a m b : Nat) (h1 : a < m) (h2 : m < b) (hb : b ≤ l.length) : Ctr (ax g).E 282 [mslP l, .i64 a, .i64 m, .i64 b, .clo (.func 244) [] []] [(9100, some (bufP l))] (fun o => o = .ret (.tup []) [(9100, some (bufP (rotF l a m b)))]) := by
  have e1 := i64_subN (a := m) (b := a) (by omega) (by omega)
  have e2 := i64_subN (a := b) (b := m) (by omega) (by omega)
  refine Ctr.body (X := ax g) _ 58 [9100] [] Tryz.func282 rfl rfl rfl rfl (by decide +kernel) rfl rfl ?_
  conv => whnf
  repeat' (first | (refine And.intro easyA ?_; conv => whnf) | (refine ifB_intro (fun hA => ?_) (fun hA => ?_) <;> (try rw [hA]) <;> (conv => whnf) <;> (first | replace hA := nrmA hA | replace hA := nrmB hA | replace hA := nrmC hA | replace hA := nrmD hA | replace hA := nrmE hA | replace hA := nrmF hA | skip) <;> (try simp only [List.length_map, cond_true, cond_false, Bool.not_eq_true', Bool.not_eq_false', beq_iff_eq, beq_eq_false_iff_ne, ne_eq] at hA)) | (rw [getD_map _ _ _ _ (by assumption)]; conv => whnf))
  refine LoopP.inv (X := ax g) (fun x : List PairT × Nat × Nat => { f := [(0, mslP l), (2, .i64 m), (4, .clo (.func 244) [] []), (10, .i64 x.2.1), (11, .i64 x.2.2)], h := [(9100, some (bufP x.1))] }) (fun x => x.1.length = l.length ∧ 0 < x.2.1 ∧ 0 < x.2.2 ∧ x.2.1 ≤ m ∧ m + x.2.2 ≤ l.length ∧ ∃ f, x.2.1 + x.2.2 ≤ f ∧ rotG m f x.1 x.2.1 x.2.2 = rotF l a m b) (fun x => x.2.1 + x.2.2) (l, m - a, b - m) ⟨rfl, by show 0 < m - a; omega, by show 0 < b - m; omega, by show m - a ≤ m; omega, by show m + (b - m) ≤ _; omega, b - a, by show m - a + (b - m) ≤ _; omega, rfl⟩ ⟨⟨rfl, rfl, rfl, AV.int_eq e1, AV.int_eq e2, trivial⟩, ⟨fun o h => h, trivial⟩⟩ fun ⟨q, i, j⟩ ⟨hq, hi, hj, him, hjl, f, hf, hR⟩ => ?_
  dsimp only at hq hi hj him hjl hf hR ⊢
  obtain ⟨f, rfl⟩ : ∃ k, f = k + 1 := ⟨f - 1, by omega⟩
  have e3 := i64_subN (a := m) (b := i) (by omega) (by omega)
  conv => whnf
  repeat' (first | (refine And.intro easyA ?_; conv => whnf) | (refine ifB_intro (fun hA => ?_) (fun hA => ?_) <;> (try rw [hA]) <;> (conv => whnf) <;> (first | replace hA := nrmA hA | replace hA := nrmB hA | replace hA := nrmC hA | replace hA := nrmD hA | replace hA := nrmE hA | replace hA := nrmF hA | skip) <;> (try simp only [ne_eq] at hA)) | (rw [e3]; conv => whnf) | (rw [getD_map _ _ _ _ (by assumption)]; conv => whnf))
  · rename_i hne
    have hgt : j < i := by omega
    have hc := swrange_ctr g q (by omega) (m - i) m j (by omega) (by omega)
    have e4 := i64_subN (a := i) (b := j) (by omega) (by omega)
    rw [rotG, if_neg (by omega), if_pos hgt] at hR
    unfold mslP at hc
    rw [hq] at hc
    repeat' (first | (refine And.intro easyA ?_; conv => whnf) | (refine ifB_intro (fun hA => ?_) (fun hA => ?_) <;> (try rw [hA]) <;> (conv => whnf) <;> (first | replace hA := nrmA hA | replace hA := nrmB hA | replace hA := nrmC hA | replace hA := nrmD hA | replace hA := nrmE hA | replace hA := nrmF hA | skip) <;> (try simp only [List.length_map, cond_true, cond_false, Bool.not_eq_true', Bool.not_eq_false', beq_iff_eq, beq_eq_false_iff_ne, ne_eq] at hA)) | (refine CallP.upd rfl (hc) ?_; conv => whnf) | (refine CallD.upd rfl (hc) ?_; conv => whnf) | (rw [getD_map _ _ _ _ (by assumption)]; conv => whnf))
    exact ⟨(swrF q (m - i) m j, i - j, j), ⟨by rw [swrF_len]; exact hq, by show 0 < i - j; omega, hj, by show i - j ≤ m; omega, hjl, f, by show i - j + j ≤ f; omega, hR⟩, by show i - j + j < i + j; omega, ⟨⟨rfl, rfl, rfl, AV.int_eq e4, rfl, trivial⟩, ⟨fun o h => h, trivial⟩⟩⟩
  · rename_i hne
    have hgt : i < j := by omega
    have hc := swrange_ctr g q (by omega) (m - i) (m + j - i) i (by omega) (by omega)
    have e4 := i64_subN (a := j) (b := i) (by omega) (by omega)
    have e5 := i64_addN (a := m) (b := j) (by omega)
    have e6 := i64_subN (a := m + j) (b := i) (by omega) (by omega)
    rw [rotG, if_neg (by omega), if_neg (by omega)] at hR
    unfold mslP at hc
    rw [hq] at hc
    repeat' (first | (refine And.intro easyA ?_; conv => whnf) | (refine ifB_intro (fun hA => ?_) (fun hA => ?_) <;> (try rw [hA]) <;> (conv => whnf) <;> (first | replace hA := nrmA hA | replace hA := nrmB hA | replace hA := nrmC hA | replace hA := nrmD hA | replace hA := nrmE hA | replace hA := nrmF hA | skip) <;> (try simp only [List.length_map, cond_true, cond_false, Bool.not_eq_true', Bool.not_eq_false', beq_iff_eq, beq_eq_false_iff_ne, ne_eq] at hA)) | (rw [e5]; conv => whnf) | (rw [e6]; conv => whnf) | (refine CallP.upd rfl (hc) ?_; conv => whnf) | (refine CallD.upd rfl (hc) ?_; conv => whnf) | (rw [getD_map _ _ _ _ (by assumption)]; conv => whnf))
    exact ⟨(swrF q (m - i) (m + j - i) i, i, j - i), ⟨by rw [swrF_len]; exact hq, hi, by show 0 < j - i; omega, him, by show m + (j - i) ≤ _; omega, f, by show i + (j - i) ≤ f; omega, hR⟩, by show i + (j - i) < i + j; omega, ⟨⟨rfl, rfl, rfl, rfl, AV.int_eq e4, trivial⟩, ⟨fun o h => h, trivial⟩⟩⟩
  · have hij : i = j := by omega
    subst hij
    have hc := swrange_ctr g q (by omega) (m - i) m i (by omega) (by omega)
    rw [rotG, if_pos rfl] at hR
    unfold mslP at hc
    rw [hq] at hc
    repeat' (first | (refine And.intro easyA ?_; conv => whnf) | (refine ifB_intro (fun hA => ?_) (fun hA => ?_) <;> (try rw [hA]) <;> (conv => whnf) <;> (first | replace hA := nrmA hA | replace hA := nrmB hA | replace hA := nrmC hA | replace hA := nrmD hA | replace hA := nrmE hA | replace hA := nrmF hA | skip) <;> (try simp only [List.length_map, cond_true, cond_false, Bool.not_eq_true', Bool.not_eq_false', beq_iff_eq, beq_eq_false_iff_ne, ne_eq] at hA)) | (refine CallP.upd rfl (hc) ?_; conv => whnf) | (refine CallD.upd rfl (hc) ?_; conv => whnf) | (rw [getD_map _ _ _ _ (by assumption)]; conv => whnf))
    refine ⟨⟨[(9100, some (bufP (swrF q (m - i) m i)))], ?_⟩⟩
    conv => whnf
    repeat' (first | (refine And.intro easyA ?_; conv => whnf) | (refine ifB_intro (fun hA => ?_) (fun hA => ?_) <;> (try rw [hA]) <;> (conv => whnf) <;> (first | replace hA := nrmA hA | replace hA := nrmB hA | replace hA := nrmC hA | replace hA := nrmD hA | replace hA := nrmE hA | replace hA := nrmF hA | skip) <;> (try simp only [List.length_map, cond_true, cond_false, Bool.not_eq_true', Bool.not_eq_false', beq_iff_eq, beq_eq_false_iff_ne, ne_eq] at hA)) | (refine And.intro ⟨fun o h => h, trivial⟩ ?_; conv => whnf) | (rw [getD_map _ _ _ _ (by assumption)]; conv => whnf))
    rw [hR]
end Go.Ax
