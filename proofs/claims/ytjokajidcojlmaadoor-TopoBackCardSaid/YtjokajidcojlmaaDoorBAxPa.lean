import Derived.Test.YtjokajidcojlmaaDoorBAxTk
import Derived.Test.YtjokajidcojlmaaDoorBAxTo

namespace Go.Ax
open Go.Proofs Go.Lib
set_option maxRecDepth 10000

/-- topo's parser: tokens that are left, a fault. -/
def objP (l : List TokT) (b : Bool) : AObj := .dvar 2 [.sl false 3 (l.map rowK), .v (.bool b)]
def isW (t : TokT) (s : ByteArray) : Bool := !((t.kind != 1 && t.kind != 3) || !(t.s.data.toList == s.data.toList))

theorem pword_ctr (g : GP) (t : TokT) (l : List TokT) (b : Bool) (s : ByteArray) : Ctr (ax g).E 132 [.ptr 9000 0, .str s] [(9000, some (objP (t :: l) b))] (fun o => o = .ret (.bool (isW t s)) [(9000, some (objP (if isW t s then l else t :: l) b))]) := by
  refine Ctr.body (X := ax g) _ 34 [9000] [.tmp 4] Tryd.func132 rfl rfl rfl rfl (by decide +kernel) rfl rfl ?_
  conv => whnf
  repeat (refine And.intro (by first | exact rfl | decide | exact Nat.le_of_ble_eq_true rfl | exact ⟨_, rfl⟩ | exact ⟨_, _, rfl⟩) ?_; conv => whnf)
  refine And.intro (by show (0 : Int) < (((t :: l).map rowK).length : Int); simp) ?_
  conv => whnf
  repeat (refine And.intro (by first | exact rfl | decide | exact Nat.le_of_ble_eq_true rfl | exact ⟨_, rfl⟩ | exact ⟨_, _, rfl⟩) ?_; conv => whnf)
  refine ifB_intro (fun h => ?_) (fun h => ?_)
  · rw [h]
    have h : (t.kind != 1) = true := h
    conv => whnf
    repeat (refine And.intro (by first | exact rfl | decide | exact Nat.le_of_ble_eq_true rfl | exact ⟨_, rfl⟩ | exact ⟨_, _, rfl⟩) ?_; conv => whnf)
    refine ifB_intro (fun h2 => ?_) (fun h2 => ?_)
    · rw [h2]
      have h2 : (t.kind != 3) = true := h2
      have hw : isW t s = false := by rw [isW, h, h2]; rfl
      conv => whnf
      refine ⟨⟨[(9000, some (objP (if isW t s then l else t :: l) b))], ?_⟩⟩
      rw [hw]
      conv => whnf
      refine And.intro ⟨fun o h => h, trivial⟩ ?_
      rfl
    · rw [h2]
      have h2 : (t.kind != 3) = false := h2
      conv => whnf
      repeat (refine And.intro (by first | exact rfl | decide | exact Nat.le_of_ble_eq_true rfl | exact ⟨_, rfl⟩ | exact ⟨_, _, rfl⟩) ?_; conv => whnf)
      refine ifB_intro (fun h3 => ?_) (fun h3 => ?_)
      · have h3 : (!(t.s.data.toList == s.data.toList)) = true := h3
        have hw : isW t s = false := by rw [isW, h, h2, h3]; rfl
        conv => whnf
        refine ⟨⟨[(9000, some (objP (if isW t s then l else t :: l) b))], ?_⟩⟩
        rw [hw]
        conv => whnf
        refine And.intro ⟨fun o h => h, trivial⟩ ?_
        rfl
      · have h3 : (!(t.s.data.toList == s.data.toList)) = false := h3
        have hw : isW t s = true := by rw [isW, h, h2, h3]; rfl
        conv => whnf
        repeat (refine And.intro (by first | exact rfl | decide | exact Nat.le_of_ble_eq_true rfl | exact ⟨_, rfl⟩ | exact ⟨_, _, rfl⟩) ?_; conv => whnf)
        refine And.intro (by show (1 : Int) ≤ (((t :: l).map rowK).length : Int); simp; omega) ?_
        refine And.intro (Int.le_refl _) ?_
        conv => whnf
        repeat (refine And.intro (by first | exact rfl | decide | exact Nat.le_of_ble_eq_true rfl | exact ⟨_, rfl⟩ | exact ⟨_, _, rfl⟩) ?_; conv => whnf)
        refine ⟨⟨[(9000, some (objP (if isW t s then l else t :: l) b))], ?_⟩⟩
        rw [hw]
        conv => whnf
        refine And.intro ⟨fun o h => ?_, trivial⟩ ?_
        · rw [← h]
          show some (AObj.dvar 2 [.sl false 3 (List.take (((t :: l).map rowK).length - 1) (List.drop 1 ((t :: l).map rowK))), .v (.bool b)]) = some (objP l b)
          simp [objP, List.take_of_length_le]
        · rfl
  · rw [h]
    have h : (t.kind != 1) = false := h
    conv => whnf
    repeat (refine And.intro (by first | exact rfl | decide | exact Nat.le_of_ble_eq_true rfl | exact ⟨_, rfl⟩ | exact ⟨_, _, rfl⟩) ?_; conv => whnf)
    refine ifB_intro (fun h3 => ?_) (fun h3 => ?_)
    · have h3 : (!(t.s.data.toList == s.data.toList)) = true := h3
      have hw : isW t s = false := by rw [isW, h, h3]; rfl
      conv => whnf
      refine ⟨⟨[(9000, some (objP (if isW t s then l else t :: l) b))], ?_⟩⟩
      rw [hw]
      conv => whnf
      refine And.intro ⟨fun o h => h, trivial⟩ ?_
      rfl
    · have h3 : (!(t.s.data.toList == s.data.toList)) = false := h3
      have hw : isW t s = true := by rw [isW, h, h3]; rfl
      conv => whnf
      repeat (refine And.intro (by first | exact rfl | decide | exact Nat.le_of_ble_eq_true rfl | exact ⟨_, rfl⟩ | exact ⟨_, _, rfl⟩) ?_; conv => whnf)
      refine And.intro (by show (1 : Int) ≤ (((t :: l).map rowK).length : Int); simp; omega) ?_
      refine And.intro (Int.le_refl _) ?_
      conv => whnf
      repeat (refine And.intro (by first | exact rfl | decide | exact Nat.le_of_ble_eq_true rfl | exact ⟨_, rfl⟩ | exact ⟨_, _, rfl⟩) ?_; conv => whnf)
      refine ⟨⟨[(9000, some (objP (if isW t s then l else t :: l) b))], ?_⟩⟩
      rw [hw]
      conv => whnf
      refine And.intro ⟨fun o h => ?_, trivial⟩ ?_
      · rw [← h]
        show some (AObj.dvar 2 [.sl false 3 (List.take (((t :: l).map rowK).length - 1) (List.drop 1 ((t :: l).map rowK))), .v (.bool b)]) = some (objP l b)
        simp [objP, List.take_of_length_le]
      · rfl
def isN (t : TokT) : Bool := t.kind == 2
def numN (t : TokT) : Int := if isN t then t.n else 0
theorem pnumber_ctr (g : GP) (t : TokT) (l : List TokT) (b : Bool) : Ctr (ax g).E 134 [.ptr 9000 0] [(9000, some (objP (t :: l) b))] (fun o => o = .ret (.tup [.d (.v (.int .u16 (numN t))), .bool (isN t)]) [(9000, some (objP (if isN t then l else t :: l) b))]) := by
  refine Ctr.body (X := ax g) _ 24 [9000] [.tmp 2, .tmp 3] Tryd.func134 rfl rfl rfl rfl (by decide +kernel) rfl rfl ?_
  conv => whnf
  repeat (refine And.intro (by first | exact rfl | decide | exact Nat.le_of_ble_eq_true rfl | exact ⟨_, rfl⟩ | exact ⟨_, _, rfl⟩) ?_; conv => whnf)
  refine And.intro (by show (0 : Int) < (((t :: l).map rowK).length : Int); simp) ?_
  conv => whnf
  repeat (refine And.intro (by first | exact rfl | decide | exact Nat.le_of_ble_eq_true rfl | exact ⟨_, rfl⟩ | exact ⟨_, _, rfl⟩) ?_; conv => whnf)
  refine ifB_intro (fun h => ?_) (fun h => ?_)
  · have h : (t.kind != 2) = true := h
    have hw : isN t = false := by rw [isN]; simpa [bne] using h
    have hn : numN t = 0 := by rw [numN, hw]; rfl
    conv => whnf
    refine ⟨⟨[(9000, some (objP (if isN t then l else t :: l) b))], ?_⟩⟩
    rw [hw, hn]
    conv => whnf
    refine And.intro ⟨fun o h => h, trivial⟩ ?_
    rfl
  · have h : (t.kind != 2) = false := h
    have hw : isN t = true := by rw [isN]; simpa [bne] using h
    have hn : numN t = t.n := by rw [numN, hw]; rfl
    conv => whnf
    repeat (refine And.intro (by first | exact rfl | decide | exact Nat.le_of_ble_eq_true rfl | exact ⟨_, rfl⟩ | exact ⟨_, _, rfl⟩) ?_; conv => whnf)
    refine And.intro (by show (1 : Int) ≤ (((t :: l).map rowK).length : Int); simp; omega) ?_
    refine And.intro (Int.le_refl _) ?_
    conv => whnf
    repeat (refine And.intro (by first | exact rfl | decide | exact Nat.le_of_ble_eq_true rfl | exact ⟨_, rfl⟩ | exact ⟨_, _, rfl⟩) ?_; conv => whnf)
    refine ⟨⟨[(9000, some (objP (if isN t then l else t :: l) b))], ?_⟩⟩
    rw [hw, hn]
    conv => whnf
    refine And.intro ⟨fun o h => ?_, trivial⟩ ?_
    · rw [← h]
      show some (AObj.dvar 2 [.sl false 3 (List.take (((t :: l).map rowK).length - 1) (List.drop 1 ((t :: l).map rowK))), .v (.bool b)]) = some (objP l b)
      simp [objP, List.take_of_length_le]
    · rfl

theorem pneed_ctr (g : GP) (t : TokT) (l : List TokT) (b : Bool) : Ctr (ax g).E 133 [.ptr 9000 0] [(9000, some (objP (t :: l) b))] (fun o => o = .ret (.d (.v (.int .u16 (numN t)))) [(9000, some (objP (if isN t then l else t :: l) (b || !isN t)))]) := by
  refine Ctr.body (X := ax g) _ 22 [9000] [.tmp 2] Tryd.func133 rfl rfl rfl rfl (by decide +kernel) rfl rfl ?_
  conv => whnf
  refine CallP.upd rfl (pnumber_ctr g t l b) ?_
  generalize (if isN t then l else t :: l) = l'
  cases b with
  | true =>
    conv => whnf
    repeat (refine And.intro (by first | exact rfl | decide | exact Nat.le_of_ble_eq_true rfl | exact ⟨_, rfl⟩ | exact ⟨_, _, rfl⟩) ?_; conv => whnf)
    refine ⟨⟨[(9000, some (objP l' (true || !isN t)))], ?_⟩⟩
    conv => whnf
    refine And.intro ⟨fun o h => h, trivial⟩ ?_
    rfl
  | false =>
    conv => whnf
    repeat (refine And.intro (by first | exact rfl | decide | exact Nat.le_of_ble_eq_true rfl | exact ⟨_, rfl⟩ | exact ⟨_, _, rfl⟩) ?_; conv => whnf)
    refine ⟨⟨[(9000, some (objP l' (false || !isN t)))], ?_⟩⟩
    conv => whnf
    refine And.intro ⟨fun o h => h, trivial⟩ ?_
    rfl

theorem pmust_ctr (g : GP) (t : TokT) (l : List TokT) (b : Bool) (s : ByteArray) : Ctr (ax g).E 136 [.ptr 9000 0, .str s] [(9000, some (objP (t :: l) b))] (fun o => o = .ret (.tup []) [(9000, some (objP (if isW t s then l else t :: l) (!isW t s || b)))]) := by
  refine Ctr.body (X := ax g) _ 17 [9000] [] Tryd.func136 rfl rfl rfl rfl (by decide +kernel) rfl rfl ?_
  conv => whnf
  refine CallP.upd rfl (pword_ctr g t l b s) ?_
  generalize (if isW t s then l else t :: l) = l'
  conv => whnf
  refine ifB_intro (fun h => ?_) (fun h => ?_)
  · rw [h]
    have h : (!isW t s) = true := h
    conv => whnf
    repeat (refine And.intro (by first | exact rfl | decide | exact Nat.le_of_ble_eq_true rfl | exact ⟨_, rfl⟩ | exact ⟨_, _, rfl⟩) ?_; conv => whnf)
    refine ⟨⟨[(9000, some (objP l' (!isW t s || b)))], ?_⟩⟩
    rw [h]
    conv => whnf
    refine And.intro ⟨fun o h => h, trivial⟩ ?_
    rfl
  · rw [h]
    have h : (!isW t s) = false := h
    conv => whnf
    repeat (refine And.intro (by first | exact rfl | decide | exact Nat.le_of_ble_eq_true rfl | exact ⟨_, rfl⟩ | exact ⟨_, _, rfl⟩) ?_; conv => whnf)
    refine ⟨⟨[(9000, some (objP l' (!isW t s || b)))], ?_⟩⟩
    rw [h]
    conv => whnf
    refine And.intro ⟨fun o h => h, trivial⟩ ?_
    rfl

/-- A parser's tokens and fault: the last token is an end. -/
structure PS where
  l : List TokT
  bad : Bool
def EndsOk (l : List TokT) : Prop := ∃ i, l = i ++ [noTok]
theorem EndsOk.tail {t : TokT} {r : List TokT} (h : EndsOk (t :: r)) (hk : t.kind ≠ 0) : EndsOk r := by
  obtain ⟨i, hi⟩ := h
  cases i with
  | nil =>
    injection hi with h1 h2
    subst h1; exact absurd rfl hk
  | cons x i => injection hi with h1 h2; exact ⟨i, h2⟩
theorem EndsOk.cons {l : List TokT} (h : EndsOk l) : ∃ t r, l = t :: r := by
  obtain ⟨i, rfl⟩ := h
  cases i with
  | nil => exact ⟨_, _, rfl⟩
  | cons x i => exact ⟨_, _, rfl⟩
def hd (l : List TokT) : TokT := l.headD noTok
def needF (p : PS) : Int × PS := (numN (hd p.l), ⟨if isN (hd p.l) then p.l.tail else p.l, p.bad || !isN (hd p.l)⟩)
def wordB (p : PS) (s : ByteArray) : Bool := isW (hd p.l) s
def takeF (p : PS) (s : ByteArray) : PS := ⟨if wordB p s then p.l.tail else p.l, p.bad⟩
def mustF (p : PS) (s : ByteArray) : PS := ⟨if wordB p s then p.l.tail else p.l, !wordB p s || p.bad⟩
theorem needF_ok {p : PS} (h : EndsOk p.l) : EndsOk (needF p).2.l := by
  obtain ⟨t, r, hl⟩ := h.cons
  simp only [needF, hl, hd, List.headD_cons, List.tail_cons]
  rw [hl] at h
  split
  · rename_i hn
    exact h.tail (fun e => by rw [isN, e] at hn; exact absurd hn (by decide))
  · exact h
theorem isW_kind {t : TokT} {s : ByteArray} (h : isW t s = true) : t.kind ≠ 0 := fun e => by
  rw [isW, e] at h; exact absurd h (by simp)
theorem mustF_ok {p : PS} {s : ByteArray} (h : EndsOk p.l) : EndsOk (mustF p s).l := by
  obtain ⟨t, r, hl⟩ := h.cons
  simp only [mustF, wordB, hl, hd, List.headD_cons, List.tail_cons]
  rw [hl] at h
  split
  · rename_i hn; exact h.tail (isW_kind hn)
  · exact h
def objS (p : PS) : AObj := objP p.l p.bad
theorem need_ctr (g : GP) (p : PS) (h : EndsOk p.l) : Ctr (ax g).E 133 [.ptr 9000 0] [(9000, some (objS p))] (fun o => o = .ret (.d (.v (.int .u16 (needF p).1))) [(9000, some (objS (needF p).2))]) := by
  obtain ⟨t, r, hl⟩ := h.cons
  obtain ⟨l, b⟩ := p
  subst hl
  exact pneed_ctr g t r b
theorem must_ctr (g : GP) (p : PS) (h : EndsOk p.l) (s : ByteArray) : Ctr (ax g).E 136 [.ptr 9000 0, .str s] [(9000, some (objS p))] (fun o => o = .ret (.tup []) [(9000, some (objS (mustF p s)))]) := by
  obtain ⟨t, r, hl⟩ := h.cons
  obtain ⟨l, b⟩ := p
  subst hl
  exact pmust_ctr g t r b s
def portF (p : PS) : (Int × Int) × PS := (((needF p).1, (needF (mustF (needF p).2 ⟨#[58]⟩)).1), (needF (mustF (needF p).2 ⟨#[58]⟩)).2)
theorem port_ctr (g : GP) (p : PS) (h : EndsOk p.l) : Ctr (ax g).E 135 [.ptr 9000 0] [(9000, some (objS p))] (fun o => o = .ret (.dagg (rowP (portF p).1)) [(9000, some (objS (portF p).2))]) := by
  have h1 := needF_ok h
  have h2 := mustF_ok (s := ⟨#[58]⟩) h1
  refine Ctr.body (X := ax g) _ 12 [9000] [.cell 2 63] Tryd.func135 rfl rfl rfl rfl (by decide +kernel) rfl rfl ?_
  conv => whnf
  refine CallP.upd rfl (need_ctr g p h) ?_
  generalize hq1 : (needF p).2 = q1 at h1 h2
  generalize hn1 : (needF p).1 = n1
  conv => whnf
  refine CallP.upd rfl (must_ctr g q1 h1 ⟨#[58]⟩) ?_
  generalize hq2 : mustF q1 ⟨#[58]⟩ = q2 at h2
  conv => whnf
  refine CallP.upd rfl (need_ctr g q2 h2) ?_
  have hp : portF p = ((n1, (needF q2).1), (needF q2).2) := by rw [portF, hq1, hn1, hq2]
  generalize hq3 : (needF q2).2 = q3 at hp
  generalize hn3 : (needF q2).1 = n3 at hp
  conv => whnf
  refine And.intro ⟨⟨_, _, rfl, rfl, Nat.le_of_ble_eq_true rfl⟩, ⟨_, _, rfl, rfl, Nat.le_of_ble_eq_true rfl⟩, trivial⟩ ?_
  conv => whnf
  refine And.intro rfl ?_
  conv => whnf
  refine ⟨⟨[(9000, some (objS q3))], ?_⟩⟩
  conv => whnf
  refine And.intro ⟨fun o h => h, trivial⟩ ?_
  repeat (refine And.intro (by first | exact rfl | decide | exact Nat.le_of_ble_eq_true rfl | exact ⟨_, rfl⟩ | exact ⟨_, _, rfl⟩) ?_; conv => whnf)
  rw [hp]; rfl
end Go.Ax
