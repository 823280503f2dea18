import Derived.Test.YtjokajidcojlmaaDoorDAxSa

/- syntax's parser: policies. -/
namespace Go.Ax
open Go.Proofs
set_option maxRecDepth 10000

def idB : ByteArray := ⟨#[105, 100]⟩
def dropB : ByteArray := ⟨#[100, 114, 111, 112]⟩
def lparB : ByteArray := ⟨#[40]⟩
def rparB : ByteArray := ⟨#[41]⟩
def bangB : ByteArray := ⟨#[33]⟩
def semiB : ByteArray := ⟨#[59]⟩
def plusB : ByteArray := ⟨#[43]⟩

def joinedS (op : Int) (l : List PolT) : PolT := if l.length = 1 then l.getD 0 (.mk 0 0 0 []) else .mk op 0 0 l
theorem joined_ctr (g : GP) (op : Int) (l : List PolT) : Ctr (ax g).E 190 [.i64 op, .d (.sl false 4 (l.map rowO4))] [] (fun o => o = .ret (.dagg (rowP4 (joinedS op l))) []) := by
  match l with
  | [] =>
    refine Ctr.body (X := ax g) _ 14 [] [.cell 4 29] Tryd.func190 rfl rfl rfl rfl (by decide +kernel) rfl rfl ?_
    conv => whnf
    repeat' (first | (refine And.intro (by first | exact rfl | decide | exact Nat.le_of_ble_eq_true rfl | exact ⟨_, rfl⟩ | exact ⟨_, _, rfl⟩ | exact Nat.le_refl _ | exact Int.le_refl _ | omega | (simp only []; omega) | exact True.intro | (simp only []; omega) | (simp only [List.map_nil, List.length_cons]; omega) | (simp only [List.length_cons, List.length_nil]; omega) | exact ⟨⟨_, _, rfl, rfl, Nat.le_of_ble_eq_true rfl⟩, trivial⟩ | exact ⟨⟨_, _, rfl, rfl, Nat.le_of_ble_eq_true rfl⟩, ⟨_, _, rfl, rfl, Nat.le_of_ble_eq_true rfl⟩, trivial⟩ | exact ⟨⟨_, _, rfl, rfl, Nat.le_of_ble_eq_true rfl⟩, ⟨_, _, rfl, rfl, Nat.le_of_ble_eq_true rfl⟩, ⟨_, _, rfl, rfl, Nat.le_of_ble_eq_true rfl⟩, trivial⟩) ?_; conv => whnf) | (refine ifB_intro (fun hA => ?_) (fun hA => ?_) <;> (try rw [hA]) <;> (conv => whnf) <;> (first | replace hA := of_decide_eq_true hA | replace hA := of_decide_eq_false hA | replace hA := eq_of_beq hA | replace hA := ne_of_beq_false hA | replace hA := bne_iff_ne.1 hA | replace hA := bne_eq_false_iff_eq.1 hA | skip) <;> (try simp only [List.length_map, cond_true, cond_false, Bool.not_eq_true', Bool.not_eq_false', beq_iff_eq, beq_eq_false_iff_ne, ne_eq] at hA)) | (rw [getD_map _ _ _ _ (by assumption)]; conv => whnf))
    refine ⟨⟨[], ?_⟩⟩
    conv => whnf
    repeat' (first | (refine And.intro (by first | exact rfl | decide | exact Nat.le_of_ble_eq_true rfl | exact ⟨_, rfl⟩ | exact ⟨_, _, rfl⟩ | exact Nat.le_refl _ | exact Int.le_refl _ | omega | (simp only [List.length_map]; omega) | exact True.intro | (simp only [IntKind.wrap_i64, List.length_map]; omega) | (simp only [List.map_cons, List.map_nil, List.length_cons, Option.getD]; omega) | (simp only [bsz, ByteArray.size_append, List.size_toArray, List.length_cons, List.length_nil]; omega) | exact ⟨⟨_, _, rfl, rfl, Nat.le_of_ble_eq_true rfl⟩, trivial⟩ | exact ⟨⟨_, _, rfl, rfl, Nat.le_of_ble_eq_true rfl⟩, ⟨_, _, rfl, rfl, Nat.le_of_ble_eq_true rfl⟩, trivial⟩ | exact ⟨⟨_, _, rfl, rfl, Nat.le_of_ble_eq_true rfl⟩, ⟨_, _, rfl, rfl, Nat.le_of_ble_eq_true rfl⟩, ⟨_, _, rfl, rfl, Nat.le_of_ble_eq_true rfl⟩, trivial⟩) ?_; conv => whnf) | (refine ifB_intro (fun hA => ?_) (fun hA => ?_) <;> (try rw [hA]) <;> (conv => whnf) <;> (first | replace hA := of_decide_eq_true hA | replace hA := of_decide_eq_false hA | replace hA := eq_of_beq hA | replace hA := ne_of_beq_false hA | replace hA := bne_iff_ne.1 hA | replace hA := bne_eq_false_iff_eq.1 hA | skip) <;> (try simp only [List.length_map, cond_true, cond_false, Bool.not_eq_true', Bool.not_eq_false', beq_iff_eq, beq_eq_false_iff_ne, ne_eq] at hA)) | (rw [getD_map _ _ _ _ (by assumption)]; conv => whnf))
    rfl
  | [x] =>
    refine Ctr.body (X := ax g) _ 14 [] [.cell 4 29] Tryd.func190 rfl rfl rfl rfl (by decide +kernel) rfl rfl ?_
    conv => whnf
    repeat' (first | (refine And.intro (by first | exact rfl | decide | exact Nat.le_of_ble_eq_true rfl | exact ⟨_, rfl⟩ | exact ⟨_, _, rfl⟩ | exact Nat.le_refl _ | exact Int.le_refl _ | omega | (simp only []; omega) | exact True.intro | (simp only []; omega) | (simp only [List.map_cons, List.map_nil]; omega) | (simp only []; omega) | exact ⟨⟨_, _, rfl, rfl, Nat.le_of_ble_eq_true rfl⟩, trivial⟩ | exact ⟨⟨_, _, rfl, rfl, Nat.le_of_ble_eq_true rfl⟩, ⟨_, _, rfl, rfl, Nat.le_of_ble_eq_true rfl⟩, trivial⟩ | exact ⟨⟨_, _, rfl, rfl, Nat.le_of_ble_eq_true rfl⟩, ⟨_, _, rfl, rfl, Nat.le_of_ble_eq_true rfl⟩, ⟨_, _, rfl, rfl, Nat.le_of_ble_eq_true rfl⟩, trivial⟩) ?_; conv => whnf) | (refine ifB_intro (fun hA => ?_) (fun hA => ?_) <;> (try rw [hA]) <;> (conv => whnf) <;> (first | replace hA := of_decide_eq_true hA | replace hA := of_decide_eq_false hA | replace hA := eq_of_beq hA | replace hA := ne_of_beq_false hA | replace hA := bne_iff_ne.1 hA | replace hA := bne_eq_false_iff_eq.1 hA | skip) <;> (try simp only [List.length_map, cond_true, cond_false, Bool.not_eq_true', Bool.not_eq_false', beq_iff_eq, beq_eq_false_iff_ne, ne_eq] at hA)) | (rw [show (List.map rowO4 [x]).getD (Int.toNat 0) [] = rowP4 x from rowO4_at x]; conv => whnf) | (rw [getD_map _ _ _ _ (by assumption)]; conv => whnf))
    refine ⟨⟨[], ?_⟩⟩
    conv => whnf
    repeat' (first | (refine And.intro (by first | exact rfl | decide | exact Nat.le_of_ble_eq_true rfl | exact ⟨_, rfl⟩ | exact ⟨_, _, rfl⟩ | exact Nat.le_refl _ | exact Int.le_refl _ | omega | (simp only [List.length_map]; omega) | exact True.intro | (simp only [IntKind.wrap_i64, List.length_map]; omega) | (simp only [List.map_cons, List.map_nil, List.length_cons, Option.getD]; omega) | (simp only [bsz, ByteArray.size_append, List.size_toArray, List.length_cons, List.length_nil]; omega) | exact ⟨⟨_, _, rfl, rfl, Nat.le_of_ble_eq_true rfl⟩, trivial⟩ | exact ⟨⟨_, _, rfl, rfl, Nat.le_of_ble_eq_true rfl⟩, ⟨_, _, rfl, rfl, Nat.le_of_ble_eq_true rfl⟩, trivial⟩ | exact ⟨⟨_, _, rfl, rfl, Nat.le_of_ble_eq_true rfl⟩, ⟨_, _, rfl, rfl, Nat.le_of_ble_eq_true rfl⟩, ⟨_, _, rfl, rfl, Nat.le_of_ble_eq_true rfl⟩, trivial⟩) ?_; conv => whnf) | (refine ifB_intro (fun hA => ?_) (fun hA => ?_) <;> (try rw [hA]) <;> (conv => whnf) <;> (first | replace hA := of_decide_eq_true hA | replace hA := of_decide_eq_false hA | replace hA := eq_of_beq hA | replace hA := ne_of_beq_false hA | replace hA := bne_iff_ne.1 hA | replace hA := bne_eq_false_iff_eq.1 hA | skip) <;> (try simp only [List.length_map, cond_true, cond_false, Bool.not_eq_true', Bool.not_eq_false', beq_iff_eq, beq_eq_false_iff_ne, ne_eq] at hA)) | (rw [getD_map _ _ _ _ (by assumption)]; conv => whnf))
    rfl
  | x :: y :: l =>
    refine Ctr.body (X := ax g) _ 14 [] [.cell 4 29] Tryd.func190 rfl rfl rfl rfl (by decide +kernel) rfl rfl ?_
    conv => whnf
    repeat' (first | (refine And.intro (by first | exact rfl | decide | exact Nat.le_of_ble_eq_true rfl | exact ⟨_, rfl⟩ | exact ⟨_, _, rfl⟩ | exact Nat.le_refl _ | exact Int.le_refl _ | omega | (simp only []; omega) | exact True.intro | (simp only []; omega) | (simp only [List.map_cons, List.length_cons]; omega) | (simp only [List.length_cons, List.length_nil]; omega) | exact ⟨⟨_, _, rfl, rfl, Nat.le_of_ble_eq_true rfl⟩, trivial⟩ | exact ⟨⟨_, _, rfl, rfl, Nat.le_of_ble_eq_true rfl⟩, ⟨_, _, rfl, rfl, Nat.le_of_ble_eq_true rfl⟩, trivial⟩ | exact ⟨⟨_, _, rfl, rfl, Nat.le_of_ble_eq_true rfl⟩, ⟨_, _, rfl, rfl, Nat.le_of_ble_eq_true rfl⟩, ⟨_, _, rfl, rfl, Nat.le_of_ble_eq_true rfl⟩, trivial⟩) ?_; conv => whnf) | (refine ifB_intro (fun hA => ?_) (fun hA => ?_) <;> (try rw [hA]) <;> (conv => whnf) <;> (first | replace hA := of_decide_eq_true hA | replace hA := of_decide_eq_false hA | replace hA := eq_of_beq hA | replace hA := ne_of_beq_false hA | replace hA := bne_iff_ne.1 hA | replace hA := bne_eq_false_iff_eq.1 hA | skip) <;> (try simp only [List.length_map, cond_true, cond_false, Bool.not_eq_true', Bool.not_eq_false', beq_iff_eq, beq_eq_false_iff_ne, ne_eq] at hA)) | (rw [getD_map _ _ _ _ (by assumption)]; conv => whnf))
    refine ⟨⟨[], ?_⟩⟩
    conv => whnf
    repeat' (first | (refine And.intro (by first | exact rfl | decide | exact Nat.le_of_ble_eq_true rfl | exact ⟨_, rfl⟩ | exact ⟨_, _, rfl⟩ | exact Nat.le_refl _ | exact Int.le_refl _ | omega | (simp only [List.length_map]; omega) | exact True.intro | (simp only [IntKind.wrap_i64, List.length_map]; omega) | (simp only [List.map_cons, List.map_nil, List.length_cons, Option.getD]; omega) | (simp only [bsz, ByteArray.size_append, List.size_toArray, List.length_cons, List.length_nil]; omega) | exact ⟨⟨_, _, rfl, rfl, Nat.le_of_ble_eq_true rfl⟩, trivial⟩ | exact ⟨⟨_, _, rfl, rfl, Nat.le_of_ble_eq_true rfl⟩, ⟨_, _, rfl, rfl, Nat.le_of_ble_eq_true rfl⟩, trivial⟩ | exact ⟨⟨_, _, rfl, rfl, Nat.le_of_ble_eq_true rfl⟩, ⟨_, _, rfl, rfl, Nat.le_of_ble_eq_true rfl⟩, ⟨_, _, rfl, rfl, Nat.le_of_ble_eq_true rfl⟩, trivial⟩) ?_; conv => whnf) | (refine ifB_intro (fun hA => ?_) (fun hA => ?_) <;> (try rw [hA]) <;> (conv => whnf) <;> (first | replace hA := of_decide_eq_true hA | replace hA := of_decide_eq_false hA | replace hA := eq_of_beq hA | replace hA := ne_of_beq_false hA | replace hA := bne_iff_ne.1 hA | replace hA := bne_eq_false_iff_eq.1 hA | skip) <;> (try simp only [List.length_map, cond_true, cond_false, Bool.not_eq_true', Bool.not_eq_false', beq_iff_eq, beq_eq_false_iff_ne, ne_eq] at hA)) | (rw [getD_map _ _ _ _ (by assumption)]; conv => whnf))
    rw [joinedS, if_neg (by simp)]; rfl

def atomS (sum : SP → Option (PolT × SP)) (p : SP) : Option (PolT × SP) :=
  let a := takeS idB p
  if a.1 = true then some (.mk 1 0 0 [], a.2) else
  let b := takeS dropB a.2
  if b.1 = true then some (.mk 0 0 0 [], b.2) else
  let c := takeS lparB b.2
  if c.1 = true then (sum c.2).bind fun x => (mustS rparB x.2).bind fun q => some (x.1, q) else
  if (peekS c.2).data.toList = [64] then (partS eqB c.2).bind fun x => some (.mk 3 x.1.1 x.1.2 [], x.2) else
  (fieldS c.2).bind fun f =>
  let d := takeS asB f.2
  if d.1 = true then (valueS d.2).bind fun v => some (.mk 5 f.1 v.1 [], v.2) else
  (mustS eqB d.2).bind fun q => (valueS q).bind fun v => some (.mk 2 f.1 v.1 [], v.2)

theorem nextS_len {p : SP} {t : TokT} {q : SP} (h : nextS p = some (t, q)) : q.l.length < p.l.length := by
  unfold nextS at h
  split at h
  · simp at h
  · injection h with h
    injection h with h1 h2
    subst h2
    obtain ⟨l, ok, ns, u, w⟩ := p
    cases l with
    | nil => exact ok.not_nil.elim
    | cons t r => simp [SP.tl]
theorem mustS_len {s : ByteArray} {p q : SP} (h : mustS s p = some q) : q.l.length < p.l.length := by
  unfold mustS at h
  split at h
  · rename_i ht; injection h with h; subst h; exact takeS_len.2 ht
  · simp at h
theorem numS_len {p : SP} {n : Int} {q : SP} (h : numS p = some (n, q)) : q.l.length < p.l.length := by
  unfold numS at h
  split at h
  · simp at h
  · rename_i t r hn
    split at h
    · injection h with h; injection h with h1 h2; subst h2; exact nextS_len hn
    · simp at h
theorem nameS_len {p : SP} {n : ByteArray} {q : SP} (h : nameS p = some (n, q)) : q.l.length < p.l.length := by
  unfold nameS at h
  split at h
  · simp at h
  · rename_i t r hn
    split at h
    · injection h with h; injection h with h1 h2; subst h2; exact nextS_len hn
    · simp at h
theorem fieldS_len {p : SP} {n : Int} {q : SP} (h : fieldS p = some (n, q)) : q.l.length < p.l.length := by
  unfold fieldS at h
  split at h
  · simp at h
  · rename_i t r hn
    split at h
    · injection h with h; injection h with h1 h2; subst h2; exact nextS_len hn
    · simp at h
theorem valueS_len {p : SP} {n : Int} {q : SP} (h : valueS p = some (n, q)) : q.l.length < p.l.length := by
  unfold valueS at h
  split at h
  · exact numS_len h
  · split at h
    · simp at h
    · rename_i w r hn
      injection h with h; injection h with h1 h2; subst h2; exact nameS_len (q := r) hn
theorem partS_len {s : ByteArray} {p : SP} {x : PairT} {q : SP} (h : partS s p = some (x, q)) : q.l.length < p.l.length := by
  simp only [partS, Option.bind_eq_some_iff] at h
  obtain ⟨p1, h1, x1, h2, p3, h3, y, h4, h5⟩ := h
  injection h5 with h5; injection h5 with _ h5; subst h5
  have a1 := mustS_len h1
  have a2 := numS_len h2
  have a3 := mustS_len h3
  have a4 := valueS_len h4
  omega
theorem listGo_len {α : Type} {sign : ByteArray} {one : SP → Option (α × SP)} (h1 : Less one) : ∀ {n : Nat} {acc : List α} {p : SP} {x : List α} {q : SP}, listGo sign one n acc p = some (x, q) → q.l.length ≤ p.l.length
  | 0, _, _, _, _, h => by simp [listGo] at h
  | n + 1, acc, p, x, q, h => by
    rw [listGo] at h
    have := takeS_len (s := sign) (p := p)
    split at h
    · split at h
      · simp at h
      · rename_i y r hr
        have h2 := listGo_len h1 h
        have h3 := h1 _ _ _ hr
        omega
    · injection h with h; injection h with _ h; subst h; exact this.1
theorem listS_len {α : Type} {sign : ByteArray} {one : SP → Option (α × SP)} (h1 : Less one) : Less (listS sign one) := fun p x q h => by
  unfold listS at h
  split at h
  · simp at h
  · rename_i y r hr
    have h2 := listGo_len h1 h
    have h3 := h1 _ _ _ hr
    omega
theorem atomS_len {sum : SP → Option (PolT × SP)} (hs : Less sum) : Less (atomS sum) := fun p x q h => by
  simp only [atomS] at h
  have h1 := takeS_len (s := idB) (p := p)
  have h2 := takeS_len (s := dropB) (p := (takeS idB p).2)
  have h3 := takeS_len (s := lparB) (p := (takeS dropB (takeS idB p).2).2)
  split at h
  · rename_i ht; injection h with h; injection h with _ h; subst h; exact h1.2 ht
  · split at h
    · rename_i ht; injection h with h; injection h with _ h; subst h; have := h2.2 ht; omega
    · split at h
      · rename_i ht
        simp only [Option.bind_eq_some_iff] at h
        obtain ⟨y, e1, r, e2, e3⟩ := h
        injection e3 with e3; injection e3 with _ e3; subst e3
        have := hs _ _ _ e1
        have := mustS_len e2
        omega
      · split at h
        · simp only [Option.bind_eq_some_iff] at h
          obtain ⟨y, e1, e3⟩ := h
          injection e3 with e3; injection e3 with _ e3; subst e3
          have := partS_len e1
          omega
        · simp only [Option.bind_eq_some_iff] at h
          obtain ⟨y, e1, h⟩ := h
          have a1 := fieldS_len e1
          have a2 := takeS_len (s := asB) (p := y.2)
          split at h
          · simp only [Option.bind_eq_some_iff] at h
            obtain ⟨z, e2, e3⟩ := h
            injection e3 with e3; injection e3 with _ e3; subst e3
            have := valueS_len e2
            omega
          · simp only [Option.bind_eq_some_iff] at h
            obtain ⟨z, e2, v, e4, e3⟩ := h
            injection e3 with e3; injection e3 with _ e3; subst e3
            have := mustS_len e2
            have := valueS_len e4
            omega

def unaryS (sum : SP → Option (PolT × SP)) : Nat → SP → Option (PolT × SP)
  | 0, _ => none
  | n + 1, p => if (takeS bangB p).1 = true then (unaryS sum n (takeS bangB p).2).bind fun x => some (.mk 4 0 0 [x.1], x.2) else atomS sum (takeS bangB p).2
def seqS (sum : SP → Option (PolT × SP)) (n : Nat) (p : SP) : Option (PolT × SP) := (listS semiB (unaryS sum n) p).bind fun x => some (joinedS 6 x.1, x.2)
def sumS : Nat → SP → Option (PolT × SP)
  | 0, _ => none
  | n + 1, p => (listS plusB (seqS (sumS n) (n + 1)) p).bind fun x => some (joinedS 7 x.1, x.2)

theorem unaryS_len {sum : SP → Option (PolT × SP)} (hs : Less sum) : ∀ n, Less (unaryS sum n)
  | 0, _, _, _, h => by simp [unaryS] at h
  | n + 1, p, x, q, h => by
    rw [unaryS] at h
    have h1 := takeS_len (s := bangB) (p := p)
    split at h
    · simp only [Option.bind_eq_some_iff] at h
      obtain ⟨y, e1, e3⟩ := h
      injection e3 with e3; injection e3 with _ e3; subst e3
      have := unaryS_len hs n _ _ _ e1
      omega
    · have := atomS_len hs _ _ _ h
      omega
theorem seqS_len {sum : SP → Option (PolT × SP)} (hs : Less sum) (n : Nat) : Less (seqS sum n) := fun p x q h => by
  simp only [seqS, Option.bind_eq_some_iff] at h
  obtain ⟨y, e1, e3⟩ := h
  injection e3 with e3; injection e3 with _ e3; subst e3
  exact listS_len (unaryS_len hs n) _ _ _ e1
theorem sumS_len : ∀ n, Less (sumS n)
  | 0, _, _, _, h => by simp [sumS] at h
  | n + 1, p, x, q, h => by
    simp only [sumS, Option.bind_eq_some_iff] at h
    obtain ⟨y, e1, e3⟩ := h
    injection e3 with e3; injection e3 with _ e3; subst e3
    exact listS_len (seqS_len (sumS_len n) (n + 1)) _ _ _ e1

theorem atom_ctr (g : GP) (sum : SP → Option (PolT × SP)) (N : Nat) (h : ∀ p : SP, p.l.length ≤ N → Ctr (ax g).E 160 [.ptr 9000 0] (spH p) (fun o => o = outP Failed (fun x : PolT × SP => .dagg (rowP4 x.1)) (fun x => spH x.2) (sum p))) (p : SP) (hp : p.l.length ≤ N + 1) :
    Ctr (ax g).E 224 [.ptr 9000 0] (spH p) (fun o => o = outP Failed (fun x : PolT × SP => .dagg (rowP4 x.1)) (fun x => spH x.2) (atomS sum p)) := by
  have k1 := takeS_len (s := idB) (p := p)
  have k2 := takeS_len (s := dropB) (p := (takeS idB p).2)
  have k3 := takeS_len (s := lparB) (p := (takeS dropB (takeS idB p).2).2)
  refine Ctr.row ?_
  refine Ctr.body (X := ax g) _ 47 [9000, 9001] [.cell 2 29] Tryd.func224 rfl rfl rfl rfl (by decide +kernel) rfl rfl ?_
  conv => whnf
  repeat' (first | (refine And.intro (by first | exact rfl | decide | exact Nat.le_of_ble_eq_true rfl | exact ⟨_, rfl⟩ | exact ⟨_, _, rfl⟩ | exact Nat.le_refl _ | exact Int.le_refl _ | omega | (simp only []; omega) | exact True.intro | (simp only []; omega) | (simp only [List.length_cons]; omega) | (simp only [List.length_cons, List.length_nil]; omega) | exact ⟨⟨_, _, rfl, rfl, Nat.le_of_ble_eq_true rfl⟩, trivial⟩ | exact ⟨⟨_, _, rfl, rfl, Nat.le_of_ble_eq_true rfl⟩, ⟨_, _, rfl, rfl, Nat.le_of_ble_eq_true rfl⟩, trivial⟩ | exact ⟨⟨_, _, rfl, rfl, Nat.le_of_ble_eq_true rfl⟩, ⟨_, _, rfl, rfl, Nat.le_of_ble_eq_true rfl⟩, ⟨_, _, rfl, rfl, Nat.le_of_ble_eq_true rfl⟩, trivial⟩) ?_; conv => whnf) | (refine ifB_intro (fun hA => ?_) (fun hA => ?_) <;> (try rw [hA]) <;> (conv => whnf) <;> (first | replace hA := of_decide_eq_true hA | replace hA := of_decide_eq_false hA | replace hA := eq_of_beq hA | replace hA := ne_of_beq_false hA | replace hA := bne_iff_ne.1 hA | replace hA := bne_eq_false_iff_eq.1 hA | skip) <;> (try simp only [ne_eq] at hA)) | (refine CallP.hlb (take_ctr g _ idB (by decide)) (by (conv => whnf); repeat' first | exact trivial | refine And.intro (fun _ h => h) ?_) rfl ?_; conv => whnf) | (refine CallD.hlb (take_ctr g _ idB (by decide)) (by (conv => whnf); repeat' first | exact trivial | refine And.intro (fun _ h => h) ?_) ?_; conv => whnf) | (refine CallP.hlb (take_ctr g _ dropB (by decide)) (by (conv => whnf); repeat' first | exact trivial | refine And.intro (fun _ h => h) ?_) rfl ?_; conv => whnf) | (refine CallD.hlb (take_ctr g _ dropB (by decide)) (by (conv => whnf); repeat' first | exact trivial | refine And.intro (fun _ h => h) ?_) ?_; conv => whnf) | (refine CallP.hlb (take_ctr g _ lparB (by decide)) (by (conv => whnf); repeat' first | exact trivial | refine And.intro (fun _ h => h) ?_) rfl ?_; conv => whnf) | (refine CallD.hlb (take_ctr g _ lparB (by decide)) (by (conv => whnf); repeat' first | exact trivial | refine And.intro (fun _ h => h) ?_) ?_; conv => whnf) | (refine CallP.hlb (take_ctr g _ asB (by decide)) (by (conv => whnf); repeat' first | exact trivial | refine And.intro (fun _ h => h) ?_) rfl ?_; conv => whnf) | (refine CallD.hlb (take_ctr g _ asB (by decide)) (by (conv => whnf); repeat' first | exact trivial | refine And.intro (fun _ h => h) ?_) ?_; conv => whnf) | (refine CallP.hlb (speek_ctr g _) (by (conv => whnf); repeat' first | exact trivial | refine And.intro (fun _ h => h) ?_) rfl ?_; conv => whnf) | (refine CallD.hlb (speek_ctr g _) (by (conv => whnf); repeat' first | exact trivial | refine And.intro (fun _ h => h) ?_) ?_; conv => whnf) | (refine CallP.may (must5_ctr g _ rparB (by decide)) (by (conv => whnf); repeat' first | exact trivial | refine And.intro (fun _ h => h) ?_) (fun _ => rfl) (fun hN => ?_) (fun xS hS => ?_) <;> (conv => whnf) <;> (try refine ⟨⟨[], trivial, rfl, ?_⟩⟩)) | (refine CallP.may (must5_ctr g _ eqB (by decide)) (by (conv => whnf); repeat' first | exact trivial | refine And.intro (fun _ h => h) ?_) (fun _ => rfl) (fun hN => ?_) (fun xS hS => ?_) <;> (conv => whnf) <;> (try refine ⟨⟨[], trivial, rfl, ?_⟩⟩)) | (refine CallP.may (value_ctr g _) (by (conv => whnf); repeat' first | exact trivial | refine And.intro (fun _ h => h) ?_) (fun _ => rfl) (fun hN => ?_) (fun xS hS => ?_) <;> (conv => whnf) <;> (try refine ⟨⟨[], trivial, rfl, ?_⟩⟩)) | (refine CallP.may (field5_ctr g _) (by (conv => whnf); repeat' first | exact trivial | refine And.intro (fun _ h => h) ?_) (fun _ => rfl) (fun hN => ?_) (fun xS hS => ?_) <;> (conv => whnf) <;> (try refine ⟨⟨[], trivial, rfl, ?_⟩⟩)) | (refine CallP.may (part5_ctr g _ eqB (by decide)) (by (conv => whnf); repeat' first | exact trivial | refine And.intro (fun _ h => h) ?_) (fun _ => rfl) (fun hN => ?_) (fun xS hS => ?_) <;> (conv => whnf) <;> (try refine ⟨⟨[], trivial, rfl, ?_⟩⟩)) | (refine CallP.may (h (takeS lparB (takeS dropB (takeS idB p).2).2).2 (by have := k3.2 hA; omega)) (by (conv => whnf); repeat' first | exact trivial | refine And.intro (fun _ h => h) ?_) (fun _ => rfl) (fun hN => ?_) (fun xS hS => ?_) <;> (conv => whnf) <;> (try refine ⟨⟨[], trivial, rfl, ?_⟩⟩)) | (rw [getD_map _ _ _ _ (by assumption)]; conv => whnf))
  all_goals try (exact .inl ⟨rfl, by simp_all [atomS]⟩)
  refine ⟨⟨spH (takeS idB p).2, ?_⟩⟩
  conv => whnf
  repeat' (first | (refine And.intro (by first | exact rfl | decide | exact Nat.le_of_ble_eq_true rfl | exact ⟨_, rfl⟩ | exact ⟨_, _, rfl⟩ | exact Nat.le_refl _ | exact Int.le_refl _ | omega | (simp only []; omega) | exact True.intro | (simp only []; omega) | (simp only [List.map_cons, List.map_nil, List.length_cons]; omega) | (simp only [List.length_cons, List.length_nil]; omega) | exact ⟨⟨_, _, rfl, rfl, Nat.le_of_ble_eq_true rfl⟩, trivial⟩ | exact ⟨⟨_, _, rfl, rfl, Nat.le_of_ble_eq_true rfl⟩, ⟨_, _, rfl, rfl, Nat.le_of_ble_eq_true rfl⟩, trivial⟩ | exact ⟨⟨_, _, rfl, rfl, Nat.le_of_ble_eq_true rfl⟩, ⟨_, _, rfl, rfl, Nat.le_of_ble_eq_true rfl⟩, ⟨_, _, rfl, rfl, Nat.le_of_ble_eq_true rfl⟩, trivial⟩) ?_; conv => whnf) | (refine ifB_intro (fun hA => ?_) (fun hA => ?_) <;> (try rw [hA]) <;> (conv => whnf) <;> (first | replace hA := of_decide_eq_true hA | replace hA := of_decide_eq_false hA | replace hA := eq_of_beq hA | replace hA := ne_of_beq_false hA | replace hA := bne_iff_ne.1 hA | replace hA := bne_eq_false_iff_eq.1 hA | skip) <;> (try simp only [List.length_map, cond_true, cond_false, Bool.not_eq_true', Bool.not_eq_false', beq_iff_eq, beq_eq_false_iff_ne, ne_eq] at hA)) | (refine And.intro ⟨fun o h => h, fun o h => h, trivial⟩ ?_; conv => whnf) | (rw [getD_map _ _ _ _ (by assumption)]; conv => whnf))
  refine .inr ⟨(.mk 1 0 0 [], (takeS idB p).2), _, ?_, ?_, rfl⟩
  · simp_all [atomS]
  · repeat (first | exact trivial | ((conv => whnf); refine And.intro (by first | exact .inl rfl | exact .inr (.inl ⟨rfl, _, _, rfl⟩) | exact .inr (.inr ⟨_, _, _, rfl, rfl⟩) | exact .inr (.inr ⟨_, _, [rowO4 xS.1], congrArg (fun z => D.sl true 4 [z]) (rowO4_at xS.1).symm, rfl⟩)) ?_))
  refine ⟨⟨spH (takeS dropB (takeS idB p).2).2, ?_⟩⟩
  conv => whnf
  repeat' (first | (refine And.intro (by first | exact rfl | decide | exact Nat.le_of_ble_eq_true rfl | exact ⟨_, rfl⟩ | exact ⟨_, _, rfl⟩ | exact Nat.le_refl _ | exact Int.le_refl _ | omega | (simp only []; omega) | exact True.intro | (simp only []; omega) | (simp only [List.map_cons, List.map_nil, List.length_cons]; omega) | (simp only [List.length_cons, List.length_nil]; omega) | exact ⟨⟨_, _, rfl, rfl, Nat.le_of_ble_eq_true rfl⟩, trivial⟩ | exact ⟨⟨_, _, rfl, rfl, Nat.le_of_ble_eq_true rfl⟩, ⟨_, _, rfl, rfl, Nat.le_of_ble_eq_true rfl⟩, trivial⟩ | exact ⟨⟨_, _, rfl, rfl, Nat.le_of_ble_eq_true rfl⟩, ⟨_, _, rfl, rfl, Nat.le_of_ble_eq_true rfl⟩, ⟨_, _, rfl, rfl, Nat.le_of_ble_eq_true rfl⟩, trivial⟩) ?_; conv => whnf) | (refine ifB_intro (fun hA => ?_) (fun hA => ?_) <;> (try rw [hA]) <;> (conv => whnf) <;> (first | replace hA := of_decide_eq_true hA | replace hA := of_decide_eq_false hA | replace hA := eq_of_beq hA | replace hA := ne_of_beq_false hA | replace hA := bne_iff_ne.1 hA | replace hA := bne_eq_false_iff_eq.1 hA | skip) <;> (try simp only [List.length_map, cond_true, cond_false, Bool.not_eq_true', Bool.not_eq_false', beq_iff_eq, beq_eq_false_iff_ne, ne_eq] at hA)) | (refine And.intro ⟨fun o h => h, fun o h => h, trivial⟩ ?_; conv => whnf) | (rw [getD_map _ _ _ _ (by assumption)]; conv => whnf))
  refine .inr ⟨(.mk 0 0 0 [], (takeS dropB (takeS idB p).2).2), _, ?_, ?_, rfl⟩
  · simp_all [atomS]
  · repeat (first | exact trivial | ((conv => whnf); refine And.intro (by first | exact .inl rfl | exact .inr (.inl ⟨rfl, _, _, rfl⟩) | exact .inr (.inr ⟨_, _, _, rfl, rfl⟩) | exact .inr (.inr ⟨_, _, [rowO4 xS.1], congrArg (fun z => D.sl true 4 [z]) (rowO4_at xS.1).symm, rfl⟩)) ?_))
  · rename_i x hx
    refine ⟨⟨spH xS, ?_⟩⟩
    conv => whnf
    repeat' (first | (refine And.intro (by first | exact rfl | decide | exact Nat.le_of_ble_eq_true rfl | exact ⟨_, rfl⟩ | exact ⟨_, _, rfl⟩ | exact Nat.le_refl _ | exact Int.le_refl _ | omega | (simp only []; omega) | exact True.intro | (simp only []; omega) | (simp only [List.map_cons, List.map_nil, List.length_cons]; omega) | (simp only [List.length_cons, List.length_nil]; omega) | exact ⟨⟨_, _, rfl, rfl, Nat.le_of_ble_eq_true rfl⟩, trivial⟩ | exact ⟨⟨_, _, rfl, rfl, Nat.le_of_ble_eq_true rfl⟩, ⟨_, _, rfl, rfl, Nat.le_of_ble_eq_true rfl⟩, trivial⟩ | exact ⟨⟨_, _, rfl, rfl, Nat.le_of_ble_eq_true rfl⟩, ⟨_, _, rfl, rfl, Nat.le_of_ble_eq_true rfl⟩, ⟨_, _, rfl, rfl, Nat.le_of_ble_eq_true rfl⟩, trivial⟩) ?_; conv => whnf) | (refine ifB_intro (fun hA => ?_) (fun hA => ?_) <;> (try rw [hA]) <;> (conv => whnf) <;> (first | replace hA := of_decide_eq_true hA | replace hA := of_decide_eq_false hA | replace hA := eq_of_beq hA | replace hA := ne_of_beq_false hA | replace hA := bne_iff_ne.1 hA | replace hA := bne_eq_false_iff_eq.1 hA | skip) <;> (try simp only [List.length_map, cond_true, cond_false, Bool.not_eq_true', Bool.not_eq_false', beq_iff_eq, beq_eq_false_iff_ne, ne_eq] at hA)) | (refine And.intro ⟨fun o h => h, fun o h => h, trivial⟩ ?_; conv => whnf) | (rw [getD_map _ _ _ _ (by assumption)]; conv => whnf))
    refine .inr ⟨(x.1, xS), _, ?_, ?_, rfl⟩
    · simp_all [atomS]
    · repeat (first | exact trivial | ((conv => whnf); refine And.intro (by first | exact .inl rfl | exact .inr (.inl ⟨rfl, _, _, rfl⟩) | exact .inr (.inr ⟨_, _, _, rfl, rfl⟩) | exact .inr (.inr ⟨_, _, [rowO4 xS.1], congrArg (fun z => D.sl true 4 [z]) (rowO4_at xS.1).symm, rfl⟩)) ?_))
  · refine ⟨⟨spH xS.2, ?_⟩⟩
    conv => whnf
    repeat' (first | (refine And.intro (by first | exact rfl | decide | exact Nat.le_of_ble_eq_true rfl | exact ⟨_, rfl⟩ | exact ⟨_, _, rfl⟩ | exact Nat.le_refl _ | exact Int.le_refl _ | omega | (simp only []; omega) | exact True.intro | (simp only []; omega) | (simp only [List.map_cons, List.map_nil, List.length_cons]; omega) | (simp only [List.length_cons, List.length_nil]; omega) | exact ⟨⟨_, _, rfl, rfl, Nat.le_of_ble_eq_true rfl⟩, trivial⟩ | exact ⟨⟨_, _, rfl, rfl, Nat.le_of_ble_eq_true rfl⟩, ⟨_, _, rfl, rfl, Nat.le_of_ble_eq_true rfl⟩, trivial⟩ | exact ⟨⟨_, _, rfl, rfl, Nat.le_of_ble_eq_true rfl⟩, ⟨_, _, rfl, rfl, Nat.le_of_ble_eq_true rfl⟩, ⟨_, _, rfl, rfl, Nat.le_of_ble_eq_true rfl⟩, trivial⟩) ?_; conv => whnf) | (refine ifB_intro (fun hA => ?_) (fun hA => ?_) <;> (try rw [hA]) <;> (conv => whnf) <;> (first | replace hA := of_decide_eq_true hA | replace hA := of_decide_eq_false hA | replace hA := eq_of_beq hA | replace hA := ne_of_beq_false hA | replace hA := bne_iff_ne.1 hA | replace hA := bne_eq_false_iff_eq.1 hA | skip) <;> (try simp only [List.length_map, cond_true, cond_false, Bool.not_eq_true', Bool.not_eq_false', beq_iff_eq, beq_eq_false_iff_ne, ne_eq] at hA)) | (refine And.intro ⟨fun o h => h, fun o h => h, trivial⟩ ?_; conv => whnf) | (rw [getD_map _ _ _ _ (by assumption)]; conv => whnf))
    refine .inr ⟨(.mk 3 xS.1.1 xS.1.2 [], xS.2), _, ?_, ?_, rfl⟩
    · simp_all [atomS]
    · repeat (first | exact trivial | ((conv => whnf); refine And.intro (by first | exact .inl rfl | exact .inr (.inl ⟨rfl, _, _, rfl⟩) | exact .inr (.inr ⟨_, _, _, rfl, rfl⟩) | exact .inr (.inr ⟨_, _, [rowO4 xS.1], congrArg (fun z => D.sl true 4 [z]) (rowO4_at xS.1).symm, rfl⟩)) ?_))
  · rename_i f hf
    refine ⟨⟨spH xS.2, ?_⟩⟩
    conv => whnf
    repeat' (first | (refine And.intro (by first | exact rfl | decide | exact Nat.le_of_ble_eq_true rfl | exact ⟨_, rfl⟩ | exact ⟨_, _, rfl⟩ | exact Nat.le_refl _ | exact Int.le_refl _ | omega | (simp only []; omega) | exact True.intro | (simp only []; omega) | (simp only [List.map_cons, List.map_nil, List.length_cons]; omega) | (simp only [List.length_cons, List.length_nil]; omega) | exact ⟨⟨_, _, rfl, rfl, Nat.le_of_ble_eq_true rfl⟩, trivial⟩ | exact ⟨⟨_, _, rfl, rfl, Nat.le_of_ble_eq_true rfl⟩, ⟨_, _, rfl, rfl, Nat.le_of_ble_eq_true rfl⟩, trivial⟩ | exact ⟨⟨_, _, rfl, rfl, Nat.le_of_ble_eq_true rfl⟩, ⟨_, _, rfl, rfl, Nat.le_of_ble_eq_true rfl⟩, ⟨_, _, rfl, rfl, Nat.le_of_ble_eq_true rfl⟩, trivial⟩) ?_; conv => whnf) | (refine ifB_intro (fun hA => ?_) (fun hA => ?_) <;> (try rw [hA]) <;> (conv => whnf) <;> (first | replace hA := of_decide_eq_true hA | replace hA := of_decide_eq_false hA | replace hA := eq_of_beq hA | replace hA := ne_of_beq_false hA | replace hA := bne_iff_ne.1 hA | replace hA := bne_eq_false_iff_eq.1 hA | skip) <;> (try simp only [List.length_map, cond_true, cond_false, Bool.not_eq_true', Bool.not_eq_false', beq_iff_eq, beq_eq_false_iff_ne, ne_eq] at hA)) | (refine And.intro ⟨fun o h => h, fun o h => h, trivial⟩ ?_; conv => whnf) | (rw [getD_map _ _ _ _ (by assumption)]; conv => whnf))
    refine .inr ⟨(.mk 5 f.1 xS.1 [], xS.2), _, ?_, ?_, rfl⟩
    · simp_all [atomS]
    · repeat (first | exact trivial | ((conv => whnf); refine And.intro (by first | exact .inl rfl | exact .inr (.inl ⟨rfl, _, _, rfl⟩) | exact .inr (.inr ⟨_, _, _, rfl, rfl⟩) | exact .inr (.inr ⟨_, _, [rowO4 xS.1], congrArg (fun z => D.sl true 4 [z]) (rowO4_at xS.1).symm, rfl⟩)) ?_))
  · rename_i f hf q hq
    refine ⟨⟨spH xS.2, ?_⟩⟩
    conv => whnf
    repeat' (first | (refine And.intro (by first | exact rfl | decide | exact Nat.le_of_ble_eq_true rfl | exact ⟨_, rfl⟩ | exact ⟨_, _, rfl⟩ | exact Nat.le_refl _ | exact Int.le_refl _ | omega | (simp only []; omega) | exact True.intro | (simp only []; omega) | (simp only [List.map_cons, List.map_nil, List.length_cons]; omega) | (simp only [List.length_cons, List.length_nil]; omega) | exact ⟨⟨_, _, rfl, rfl, Nat.le_of_ble_eq_true rfl⟩, trivial⟩ | exact ⟨⟨_, _, rfl, rfl, Nat.le_of_ble_eq_true rfl⟩, ⟨_, _, rfl, rfl, Nat.le_of_ble_eq_true rfl⟩, trivial⟩ | exact ⟨⟨_, _, rfl, rfl, Nat.le_of_ble_eq_true rfl⟩, ⟨_, _, rfl, rfl, Nat.le_of_ble_eq_true rfl⟩, ⟨_, _, rfl, rfl, Nat.le_of_ble_eq_true rfl⟩, trivial⟩) ?_; conv => whnf) | (refine ifB_intro (fun hA => ?_) (fun hA => ?_) <;> (try rw [hA]) <;> (conv => whnf) <;> (first | replace hA := of_decide_eq_true hA | replace hA := of_decide_eq_false hA | replace hA := eq_of_beq hA | replace hA := ne_of_beq_false hA | replace hA := bne_iff_ne.1 hA | replace hA := bne_eq_false_iff_eq.1 hA | skip) <;> (try simp only [List.length_map, cond_true, cond_false, Bool.not_eq_true', Bool.not_eq_false', beq_iff_eq, beq_eq_false_iff_ne, ne_eq] at hA)) | (refine And.intro ⟨fun o h => h, fun o h => h, trivial⟩ ?_; conv => whnf) | (rw [getD_map _ _ _ _ (by assumption)]; conv => whnf))
    refine .inr ⟨(.mk 2 f.1 xS.1 [], xS.2), _, ?_, ?_, rfl⟩
    · simp_all [atomS]
    · repeat (first | exact trivial | ((conv => whnf); refine And.intro (by first | exact .inl rfl | exact .inr (.inl ⟨rfl, _, _, rfl⟩) | exact .inr (.inr ⟨_, _, _, rfl, rfl⟩) | exact .inr (.inr ⟨_, _, [rowO4 xS.1], congrArg (fun z => D.sl true 4 [z]) (rowO4_at xS.1).symm, rfl⟩)) ?_))

theorem unary_ctr (g : GP) (sum : SP → Option (PolT × SP)) (N : Nat) (h : ∀ p : SP, p.l.length ≤ N → Ctr (ax g).E 160 [.ptr 9000 0] (spH p) (fun o => o = outP Failed (fun x : PolT × SP => .dagg (rowP4 x.1)) (fun x => spH x.2) (sum p))) : ∀ (m : Nat) (p : SP), p.l.length ≤ m → m ≤ N + 1 →
    Ctr (ax g).E 215 [.ptr 9000 0] (spH p) (fun o => o = outP Failed (fun x : PolT × SP => .dagg (rowP4 x.1)) (fun x => spH x.2) (unaryS sum m p))
  | 0, p, hp, _ => by
    obtain ⟨l, ok, ns, u, w⟩ := p
    cases l with
    | nil => exact ok.not_nil.elim
    | cons t r => simp at hp
  | m + 1, p, hp, hm => by
    have ih := unary_ctr g sum N h m
    have k1 := takeS_len (s := bangB) (p := p)
    have ha := atom_ctr g sum N h (takeS bangB p).2 (by omega)
    refine Ctr.row ?_
    refine Ctr.body (X := ax g) _ 11 [9000, 9001] [.cell 2 29] Tryd.func215 rfl rfl rfl rfl (by decide +kernel) rfl rfl ?_
    conv => whnf
    repeat' (first | (refine And.intro (by first | exact rfl | decide | exact Nat.le_of_ble_eq_true rfl | exact ⟨_, rfl⟩ | exact ⟨_, _, rfl⟩ | exact Nat.le_refl _ | exact Int.le_refl _ | omega | (simp only []; omega) | exact True.intro | (simp only []; omega) | (simp only [List.length_cons]; omega) | (simp only [List.length_cons, List.length_nil]; omega) | exact ⟨⟨_, _, rfl, rfl, Nat.le_of_ble_eq_true rfl⟩, trivial⟩ | exact ⟨⟨_, _, rfl, rfl, Nat.le_of_ble_eq_true rfl⟩, ⟨_, _, rfl, rfl, Nat.le_of_ble_eq_true rfl⟩, trivial⟩ | exact ⟨⟨_, _, rfl, rfl, Nat.le_of_ble_eq_true rfl⟩, ⟨_, _, rfl, rfl, Nat.le_of_ble_eq_true rfl⟩, ⟨_, _, rfl, rfl, Nat.le_of_ble_eq_true rfl⟩, trivial⟩) ?_; conv => whnf) | (refine ifB_intro (fun hA => ?_) (fun hA => ?_) <;> (try rw [hA]) <;> (conv => whnf) <;> (first | replace hA := of_decide_eq_true hA | replace hA := of_decide_eq_false hA | replace hA := eq_of_beq hA | replace hA := ne_of_beq_false hA | replace hA := bne_iff_ne.1 hA | replace hA := bne_eq_false_iff_eq.1 hA | skip) <;> (try simp only [List.length_map, cond_true, cond_false, Bool.not_eq_true', Bool.not_eq_false', beq_iff_eq, beq_eq_false_iff_ne, ne_eq] at hA)) | (refine CallP.hlb (take_ctr g _ bangB (by decide)) (by (conv => whnf); repeat' first | exact trivial | refine And.intro (fun _ h => h) ?_) rfl ?_; conv => whnf) | (refine CallD.hlb (take_ctr g _ bangB (by decide)) (by (conv => whnf); repeat' first | exact trivial | refine And.intro (fun _ h => h) ?_) ?_; conv => whnf) | (refine CallP.may (ih (takeS bangB p).2 (by have := k1.2 hA; omega) (by omega)) (by (conv => whnf); repeat' first | exact trivial | refine And.intro (fun _ h => h) ?_) (fun _ => rfl) (fun hN => ?_) (fun xS hS => ?_) <;> (conv => whnf) <;> (try refine ⟨⟨[], trivial, rfl, ?_⟩⟩)) | (refine CallP.may (ha) (by (conv => whnf); repeat' first | exact trivial | refine And.intro (fun _ h => h) ?_) (fun _ => rfl) (fun hN => ?_) (fun xS hS => ?_) <;> (conv => whnf) <;> (try refine ⟨⟨[], trivial, rfl, ?_⟩⟩)) | (rw [getD_map _ _ _ _ (by assumption)]; conv => whnf))
    all_goals try (exact .inl ⟨rfl, by simp_all [unaryS]⟩)
    · refine ⟨⟨spH xS.2, ?_⟩⟩
      conv => whnf
      repeat' (first | (refine And.intro (by first | exact rfl | decide | exact Nat.le_of_ble_eq_true rfl | exact ⟨_, rfl⟩ | exact ⟨_, _, rfl⟩ | exact Nat.le_refl _ | exact Int.le_refl _ | omega | (simp only []; omega) | exact True.intro | (simp only []; omega) | (simp only [List.map_cons, List.map_nil, List.length_cons]; omega) | (simp only [List.length_cons, List.length_nil]; omega) | exact ⟨⟨_, _, rfl, rfl, Nat.le_of_ble_eq_true rfl⟩, trivial⟩ | exact ⟨⟨_, _, rfl, rfl, Nat.le_of_ble_eq_true rfl⟩, ⟨_, _, rfl, rfl, Nat.le_of_ble_eq_true rfl⟩, trivial⟩ | exact ⟨⟨_, _, rfl, rfl, Nat.le_of_ble_eq_true rfl⟩, ⟨_, _, rfl, rfl, Nat.le_of_ble_eq_true rfl⟩, ⟨_, _, rfl, rfl, Nat.le_of_ble_eq_true rfl⟩, trivial⟩) ?_; conv => whnf) | (refine ifB_intro (fun hA => ?_) (fun hA => ?_) <;> (try rw [hA]) <;> (conv => whnf) <;> (first | replace hA := of_decide_eq_true hA | replace hA := of_decide_eq_false hA | replace hA := eq_of_beq hA | replace hA := ne_of_beq_false hA | replace hA := bne_iff_ne.1 hA | replace hA := bne_eq_false_iff_eq.1 hA | skip) <;> (try simp only [List.length_map, cond_true, cond_false, Bool.not_eq_true', Bool.not_eq_false', beq_iff_eq, beq_eq_false_iff_ne, ne_eq] at hA)) | (refine And.intro ⟨fun o h => h, fun o h => h, trivial⟩ ?_; conv => whnf) | (rw [getD_map _ _ _ _ (by assumption)]; conv => whnf))
      refine .inr ⟨(.mk 4 0 0 [xS.1], xS.2), _, ?_, ?_, rfl⟩
      · simp_all [unaryS]
      · repeat (first | exact trivial | ((conv => whnf); refine And.intro (by first | exact .inl rfl | exact .inr (.inl ⟨rfl, _, _, rfl⟩) | exact .inr (.inr ⟨_, _, _, rfl, rfl⟩) | exact .inr (.inr ⟨_, _, [rowO4 xS.1], congrArg (fun z => D.sl true 4 [z]) (rowO4_at xS.1).symm, rfl⟩)) ?_))
    · refine ⟨⟨spH xS.2, ?_⟩⟩
      conv => whnf
      repeat' (first | (refine And.intro (by first | exact rfl | decide | exact Nat.le_of_ble_eq_true rfl | exact ⟨_, rfl⟩ | exact ⟨_, _, rfl⟩ | exact Nat.le_refl _ | exact Int.le_refl _ | omega | (simp only []; omega) | exact True.intro | (simp only []; omega) | (simp only [List.map_cons, List.map_nil, List.length_cons]; omega) | (simp only [List.length_cons, List.length_nil]; omega) | exact ⟨⟨_, _, rfl, rfl, Nat.le_of_ble_eq_true rfl⟩, trivial⟩ | exact ⟨⟨_, _, rfl, rfl, Nat.le_of_ble_eq_true rfl⟩, ⟨_, _, rfl, rfl, Nat.le_of_ble_eq_true rfl⟩, trivial⟩ | exact ⟨⟨_, _, rfl, rfl, Nat.le_of_ble_eq_true rfl⟩, ⟨_, _, rfl, rfl, Nat.le_of_ble_eq_true rfl⟩, ⟨_, _, rfl, rfl, Nat.le_of_ble_eq_true rfl⟩, trivial⟩) ?_; conv => whnf) | (refine ifB_intro (fun hA => ?_) (fun hA => ?_) <;> (try rw [hA]) <;> (conv => whnf) <;> (first | replace hA := of_decide_eq_true hA | replace hA := of_decide_eq_false hA | replace hA := eq_of_beq hA | replace hA := ne_of_beq_false hA | replace hA := bne_iff_ne.1 hA | replace hA := bne_eq_false_iff_eq.1 hA | skip) <;> (try simp only [List.length_map, cond_true, cond_false, Bool.not_eq_true', Bool.not_eq_false', beq_iff_eq, beq_eq_false_iff_ne, ne_eq] at hA)) | (refine And.intro ⟨fun o h => h, fun o h => h, trivial⟩ ?_; conv => whnf) | (rw [getD_map _ _ _ _ (by assumption)]; conv => whnf))
      refine .inr ⟨(xS.1, xS.2), _, ?_, ?_, rfl⟩
      · simp_all [unaryS]
      · repeat (first | exact trivial | ((conv => whnf); refine And.intro (by first | exact .inl rfl | exact .inr (.inl ⟨rfl, _, _, rfl⟩) | exact .inr (.inr ⟨_, _, _, rfl, rfl⟩) | exact .inr (.inr ⟨_, _, [rowO4 xS.1], congrArg (fun z => D.sl true 4 [z]) (rowO4_at xS.1).symm, rfl⟩)) ?_))

end Go.Ax

/- syntax's parser: sums; pairs. -/
namespace Go.Ax
open Go.Proofs
set_option maxRecDepth 10000

theorem seq_ctr (g : GP) (sum : SP → Option (PolT × SP)) (hs : Less sum) (N : Nat) (hN0 : N + 1 ≤ 100000) (h : ∀ p : SP, p.l.length ≤ N → Ctr (ax g).E 160 [.ptr 9000 0] (spH p) (fun o => o = outP Failed (fun x : PolT × SP => .dagg (rowP4 x.1)) (fun x => spH x.2) (sum p))) (p : SP) (hp : p.l.length ≤ N + 1) :
    Ctr (ax g).E 192 [.ptr 9000 0] (spH p) (fun o => o = outP Failed (fun x : PolT × SP => .dagg (rowP4 x.1)) (fun x => spH x.2) (seqS sum (N + 1) p)) := by
  have hl := plist_ctr g semiB (by decide) 215 (unaryS sum (N + 1)) (unaryS_len hs (N + 1)) (N + 1) (fun q hq => unary_ctr g sum N h (N + 1) q hq (Nat.le_refl _)) p hp hN0
  refine Ctr.body (X := ax g) _ 8 [9000, 9001] [.cell 2 29] Tryd.func192 rfl rfl rfl rfl (by decide +kernel) rfl rfl ?_
  conv => whnf
  repeat' (first | (refine And.intro (by first | exact rfl | decide | exact Nat.le_of_ble_eq_true rfl | exact ⟨_, rfl⟩ | exact ⟨_, _, rfl⟩ | exact Nat.le_refl _ | exact Int.le_refl _ | omega | (simp only [List.length_map]; omega) | exact True.intro | (simp only [IntKind.wrap_i64, List.length_map]; omega) | (simp only [List.map_cons, List.map_nil, List.length_cons, Option.getD]; omega) | (simp only [bsz, ByteArray.size_append, List.size_toArray, List.length_cons, List.length_nil]; omega) | exact ⟨⟨_, _, rfl, rfl, Nat.le_of_ble_eq_true rfl⟩, trivial⟩ | exact ⟨⟨_, _, rfl, rfl, Nat.le_of_ble_eq_true rfl⟩, ⟨_, _, rfl, rfl, Nat.le_of_ble_eq_true rfl⟩, trivial⟩ | exact ⟨⟨_, _, rfl, rfl, Nat.le_of_ble_eq_true rfl⟩, ⟨_, _, rfl, rfl, Nat.le_of_ble_eq_true rfl⟩, ⟨_, _, rfl, rfl, Nat.le_of_ble_eq_true rfl⟩, trivial⟩) ?_; conv => whnf) | (refine ifB_intro (fun hA => ?_) (fun hA => ?_) <;> (try rw [hA]) <;> (conv => whnf) <;> (first | replace hA := of_decide_eq_true hA | replace hA := of_decide_eq_false hA | replace hA := eq_of_beq hA | replace hA := ne_of_beq_false hA | replace hA := bne_iff_ne.1 hA | replace hA := bne_eq_false_iff_eq.1 hA | skip) <;> (try simp only [List.length_map, cond_true, cond_false, Bool.not_eq_true', Bool.not_eq_false', beq_iff_eq, beq_eq_false_iff_ne, ne_eq] at hA)) | (refine CallP.may (hl) (by (conv => whnf); repeat' first | exact trivial | refine And.intro (fun _ h => h) ?_) (fun _ => rfl) (fun hN => ?_) (fun xS hS => ?_) <;> (conv => whnf) <;> (try refine ⟨⟨[], trivial, rfl, ?_⟩⟩)) | (refine CallP.det (joined_ctr g 6 _) ?_; conv => whnf) | (refine CallD.det (joined_ctr g 6 _) ?_; conv => whnf) | (rw [getD_map _ _ _ _ (by assumption)]; conv => whnf))
  · rw [seqS, hN]; rfl
  · refine ⟨⟨spH xS.2, ?_⟩⟩
    conv => whnf
    repeat' (first | (refine And.intro (by first | exact rfl | decide | exact Nat.le_of_ble_eq_true rfl | exact ⟨_, rfl⟩ | exact ⟨_, _, rfl⟩ | exact Nat.le_refl _ | exact Int.le_refl _ | omega | (simp only []; omega) | exact True.intro | (simp only []; omega) | (simp only [List.map_cons, List.map_nil, List.length_cons]; omega) | (simp only [List.length_cons, List.length_nil]; omega) | exact ⟨⟨_, _, rfl, rfl, Nat.le_of_ble_eq_true rfl⟩, trivial⟩ | exact ⟨⟨_, _, rfl, rfl, Nat.le_of_ble_eq_true rfl⟩, ⟨_, _, rfl, rfl, Nat.le_of_ble_eq_true rfl⟩, trivial⟩ | exact ⟨⟨_, _, rfl, rfl, Nat.le_of_ble_eq_true rfl⟩, ⟨_, _, rfl, rfl, Nat.le_of_ble_eq_true rfl⟩, ⟨_, _, rfl, rfl, Nat.le_of_ble_eq_true rfl⟩, trivial⟩) ?_; conv => whnf) | (refine ifB_intro (fun hA => ?_) (fun hA => ?_) <;> (try rw [hA]) <;> (conv => whnf) <;> (first | replace hA := of_decide_eq_true hA | replace hA := of_decide_eq_false hA | replace hA := eq_of_beq hA | replace hA := ne_of_beq_false hA | replace hA := bne_iff_ne.1 hA | replace hA := bne_eq_false_iff_eq.1 hA | skip) <;> (try simp only [List.length_map, cond_true, cond_false, Bool.not_eq_true', Bool.not_eq_false', beq_iff_eq, beq_eq_false_iff_ne, ne_eq] at hA)) | (refine And.intro ⟨fun o h => h, fun o h => h, trivial⟩ ?_; conv => whnf) | (rw [getD_map _ _ _ _ (by assumption)]; conv => whnf))
    rw [seqS, hS]; rfl

theorem sum_ctr (g : GP) : ∀ (N : Nat) (p : SP), p.l.length ≤ N → N ≤ 100000 → Ctr (ax g).E 160 [.ptr 9000 0] (spH p) (fun o => o = outP Failed (fun x : PolT × SP => .dagg (rowP4 x.1)) (fun x => spH x.2) (sumS N p))
  | 0, p, hp, _ => by
    obtain ⟨l, ok, ns, u, w⟩ := p
    cases l with
    | nil => exact ok.not_nil.elim
    | cons t r => simp at hp
  | N + 1, p, hp, hN0 => by
    have ih := sum_ctr g N
    have hl := plist_ctr g plusB (by decide) 192 (seqS (sumS N) (N + 1)) (seqS_len (sumS_len N) (N + 1)) (N + 1) (fun q hq => seq_ctr g (sumS N) (sumS_len N) N hN0 (fun r hr => ih r hr (by omega)) q hq) p hp hN0
    refine Ctr.body (X := ax g) _ 8 [9000, 9001] [.cell 2 29] Tryd.func160 rfl rfl rfl rfl (by decide +kernel) rfl rfl ?_
    conv => whnf
    repeat' (first | (refine And.intro (by first | exact rfl | decide | exact Nat.le_of_ble_eq_true rfl | exact ⟨_, rfl⟩ | exact ⟨_, _, rfl⟩ | exact Nat.le_refl _ | exact Int.le_refl _ | omega | (simp only [List.length_map]; omega) | exact True.intro | (simp only [IntKind.wrap_i64, List.length_map]; omega) | (simp only [List.map_cons, List.map_nil, List.length_cons, Option.getD]; omega) | (simp only [bsz, ByteArray.size_append, List.size_toArray, List.length_cons, List.length_nil]; omega) | exact ⟨⟨_, _, rfl, rfl, Nat.le_of_ble_eq_true rfl⟩, trivial⟩ | exact ⟨⟨_, _, rfl, rfl, Nat.le_of_ble_eq_true rfl⟩, ⟨_, _, rfl, rfl, Nat.le_of_ble_eq_true rfl⟩, trivial⟩ | exact ⟨⟨_, _, rfl, rfl, Nat.le_of_ble_eq_true rfl⟩, ⟨_, _, rfl, rfl, Nat.le_of_ble_eq_true rfl⟩, ⟨_, _, rfl, rfl, Nat.le_of_ble_eq_true rfl⟩, trivial⟩) ?_; conv => whnf) | (refine ifB_intro (fun hA => ?_) (fun hA => ?_) <;> (try rw [hA]) <;> (conv => whnf) <;> (first | replace hA := of_decide_eq_true hA | replace hA := of_decide_eq_false hA | replace hA := eq_of_beq hA | replace hA := ne_of_beq_false hA | replace hA := bne_iff_ne.1 hA | replace hA := bne_eq_false_iff_eq.1 hA | skip) <;> (try simp only [List.length_map, cond_true, cond_false, Bool.not_eq_true', Bool.not_eq_false', beq_iff_eq, beq_eq_false_iff_ne, ne_eq] at hA)) | (refine CallP.may (hl) (by (conv => whnf); repeat' first | exact trivial | refine And.intro (fun _ h => h) ?_) (fun _ => rfl) (fun hN => ?_) (fun xS hS => ?_) <;> (conv => whnf) <;> (try refine ⟨⟨[], trivial, rfl, ?_⟩⟩)) | (refine CallP.det (joined_ctr g 7 _) ?_; conv => whnf) | (refine CallD.det (joined_ctr g 7 _) ?_; conv => whnf) | (rw [getD_map _ _ _ _ (by assumption)]; conv => whnf))
    · rw [sumS, hN]; rfl
    · refine ⟨⟨spH xS.2, ?_⟩⟩
      conv => whnf
      repeat' (first | (refine And.intro (by first | exact rfl | decide | exact Nat.le_of_ble_eq_true rfl | exact ⟨_, rfl⟩ | exact ⟨_, _, rfl⟩ | exact Nat.le_refl _ | exact Int.le_refl _ | omega | (simp only []; omega) | exact True.intro | (simp only []; omega) | (simp only [List.map_cons, List.map_nil, List.length_cons]; omega) | (simp only [List.length_cons, List.length_nil]; omega) | exact ⟨⟨_, _, rfl, rfl, Nat.le_of_ble_eq_true rfl⟩, trivial⟩ | exact ⟨⟨_, _, rfl, rfl, Nat.le_of_ble_eq_true rfl⟩, ⟨_, _, rfl, rfl, Nat.le_of_ble_eq_true rfl⟩, trivial⟩ | exact ⟨⟨_, _, rfl, rfl, Nat.le_of_ble_eq_true rfl⟩, ⟨_, _, rfl, rfl, Nat.le_of_ble_eq_true rfl⟩, ⟨_, _, rfl, rfl, Nat.le_of_ble_eq_true rfl⟩, trivial⟩) ?_; conv => whnf) | (refine ifB_intro (fun hA => ?_) (fun hA => ?_) <;> (try rw [hA]) <;> (conv => whnf) <;> (first | replace hA := of_decide_eq_true hA | replace hA := of_decide_eq_false hA | replace hA := eq_of_beq hA | replace hA := ne_of_beq_false hA | replace hA := bne_iff_ne.1 hA | replace hA := bne_eq_false_iff_eq.1 hA | skip) <;> (try simp only [List.length_map, cond_true, cond_false, Bool.not_eq_true', Bool.not_eq_false', beq_iff_eq, beq_eq_false_iff_ne, ne_eq] at hA)) | (refine And.intro ⟨fun o h => h, fun o h => h, trivial⟩ ?_; conv => whnf) | (rw [getD_map _ _ _ _ (by assumption)]; conv => whnf))
      rw [sumS, hS]; rfl

end Go.Ax
