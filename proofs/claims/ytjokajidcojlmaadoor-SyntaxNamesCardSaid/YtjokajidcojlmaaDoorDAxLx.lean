import Derived.Test.YtjokajidcojlmaaDoorDAxV
import Derived.Test.YtjokajidcojlmaaDoorDAxLib
import Derived.Shelf.Unicode.DecodeLastEight
import Derived.Lib.RuneCount

namespace Go.Ax
open Go.Proofs Go.Lib
set_option maxRecDepth 10000

def classF (c : Int) : Int :=
  if c = 32 ∨ c = 9 ∨ c = 10 ∨ c = 13 then 0 else if c = 35 then 1 else if c = 95 then 4 else
  if c = 40 ∨ c = 41 ∨ c = 59 ∨ c = 43 ∨ c = 33 ∨ c = 61 ∨ c = 64 ∨ c = 46 ∨ c = 38 ∨ c = 58 ∨ c = 45 then 5 else
  if 48 ≤ c ∧ c ≤ 57 then 3 else if isLetterU c then 2 else 6

theorem class_ctr (g : GP) (hg : ∀ w, g.G w → LibG w) (c : Int) (hlo : -2147483648 ≤ c) (hhi : c ≤ 2147483647) : Ctr (ax g).E 87 [.d (.v (.int .i32 c))] [] (fun o => o = .ret (.i64 (classF c)) []) := by
  by_cases hs : c = 32 ∨ c = 9 ∨ c = 10 ∨ c = 13 ∨ c = 35 ∨ c = 95 ∨ c = 40 ∨ c = 41 ∨ c = 59 ∨ c = 43 ∨ c = 33 ∨ c = 61 ∨ c = 64 ∨ c = 46 ∨ c = 38 ∨ c = 58 ∨ c = 45
  · rcases hs with rfl | rfl | rfl | rfl | rfl | rfl | rfl | rfl | rfl | rfl | rfl | rfl | rfl | rfl | rfl | rfl | rfl <;>
    · refine Ctr.body (X := ax g) _ 35 [] [.tmp 2] Tryd.func87 rfl rfl rfl rfl (by decide +kernel) rfl rfl ?_
      conv => whnf
      refine ⟨⟨[], ?_⟩⟩
      conv => whnf
      rfl
  · simp only [not_or] at hs
    obtain ⟨h1, h2, h3, h4, h5, h6, h7, h8, h9, h10, h11, h12, h13, h14, h15, h16, h17⟩ := hs
    have hc : classF c = if 48 ≤ c ∧ c ≤ 57 then 3 else if isLetterU c then 2 else 6 := by simp [classF, *]
    refine Ctr.body (X := ax g) _ 35 [] [.tmp 2] Tryd.func87 rfl rfl rfl rfl (by decide +kernel) rfl rfl ?_
    conv => whnf
    repeat (refine ifB_intro (fun h => absurd (of_decide_eq_true h) (by assumption)) (fun _ => ?_); conv => whnf)
    refine ifB_intro (fun h => ?_) (fun h => ?_)
    · rw [h]
      have h : 48 ≤ c := of_decide_eq_true h
      conv => whnf
      refine ifB_intro (fun h' => ?_) (fun h' => ?_)
      · have h' : c ≤ 57 := of_decide_eq_true h'
        conv => whnf
        refine ⟨⟨[], ?_⟩⟩
        conv => whnf
        rw [hc, if_pos ⟨h, h'⟩]
      · have h' : ¬ c ≤ 57 := of_decide_eq_false h'
        conv => whnf
        refine CallP.det (isLetter_ctr g hg c hlo hhi) ?_
        conv => whnf
        rw [if_neg (fun hh => h' hh.2)] at hc
        refine ifB_intro (fun h2 => ?_) (fun h2 => ?_)
        · conv => whnf
          refine ⟨⟨[], ?_⟩⟩
          conv => whnf
          rw [hc, h2]; rfl
        · conv => whnf
          refine ⟨⟨[], ?_⟩⟩
          conv => whnf
          rw [hc, h2]; rfl
    · rw [h]
      have h : ¬ 48 ≤ c := of_decide_eq_false h
      conv => whnf
      refine CallP.det (isLetter_ctr g hg c hlo hhi) ?_
      conv => whnf
      rw [if_neg (fun hh => h hh.1)] at hc
      refine ifB_intro (fun h2 => ?_) (fun h2 => ?_)
      · conv => whnf
        refine ⟨⟨[], ?_⟩⟩
        conv => whnf
        rw [hc, h2]; rfl
      · conv => whnf
        refine ⟨⟨[], ?_⟩⟩
        conv => whnf
        rw [hc, h2]; rfl

def withinF (c : Int) : Bool := classF c == 2 || (classF c == 3 || classF c == 4)
theorem within_ctr (g : GP) (hg : ∀ w, g.G w → LibG w) (c : Int) (hlo : -2147483648 ≤ c) (hhi : c ≤ 2147483647) : Ctr (ax g).E 128 [.d (.v (.int .i32 c))] [] (fun o => o = .ret (.bool (withinF c)) []) := by
  refine Ctr.body (X := ax g) _ 16 [] [.tmp 2] Tryd.func128 rfl rfl rfl rfl (by decide +kernel) rfl rfl ?_
  conv => whnf
  refine CallP.det (class_ctr g hg c hlo hhi) ?_
  conv => whnf
  refine ifB_intro (fun h => ?_) (fun h => ?_)
  · rw [h]
    conv => whnf
    refine ⟨⟨[], ?_⟩⟩
    conv => whnf
    have h : (classF c == 2) = true := h
    rw [withinF, h]; rfl
  · rw [h]
    conv => whnf
    have h : (classF c == 2) = false := h
    refine ifB_intro (fun h2 => ?_) (fun h2 => ?_)
    · rw [h2]
      conv => whnf
      have h2 : (classF c == 3) = true := h2
      refine ⟨⟨[], ?_⟩⟩
      conv => whnf
      rw [withinF, h, h2]; rfl
    · rw [h2]
      conv => whnf
      have h2 : (classF c == 3) = false := h2
      refine ⟨⟨[], ?_⟩⟩
      conv => whnf
      rw [withinF, h, h2]; rfl

theorem runeW_pos (s : ByteArray) (pos : Nat) (h : pos < s.size) : 1 ≤ runeW s pos := by
  by_cases ha : (s[pos]'h).toNat < 128
  · have := decode_ascii s pos h ha
    simp [runeW, this]
  · exact (decode_high s pos h (by omega)).2
theorem runeAt_le (s : ByteArray) (pos : Nat) : runeAt s pos ≤ 2147483647 := decode_le s pos

/-- How many bytes of a text's beginning are so, from a place on. -/
def runF (p : Int → Bool) (s : ByteArray) : Nat → Nat → Nat
  | 0, _ => s.size
  | fuel + 1, pos => if pos < s.size then (if p (runeAt s pos) then runF p s fuel (pos + runeW s pos) else pos) else s.size

theorem run_ctr (g : GP) (s : ByteArray) (fn : Nat) (p : Int → Bool) (hp : ∀ c : Nat, c ≤ 2147483647 → Ctr (ax g).E fn [.d (.v (.int .i32 c))] [] (fun o => o = .ret (.bool (p c)) [])) : Ctr (ax g).E 88 [.str s, .clo (.func fn) [] []] [] (fun o => o = .ret (.i64 (runF p s s.size 0)) []) := by
  refine Ctr.body (X := ax g) _ 20 [] [.tmp 4] Tryd.func88 rfl rfl rfl rfl (by decide +kernel) rfl rfl ?_
  conv => whnf
  refine LoopP.inv (X := ax g) (fun pos : Nat => { f := [(0, .str s), (1, .clo (.func fn) [] []), (8, .ptr 8 0)], h := [(8, some (.siter s pos))] }) (fun pos => ∃ fuel, s.size ≤ pos + fuel ∧ runF p s s.size 0 = runF p s fuel pos) (fun pos => s.size - pos) 0 ⟨s.size, by omega, rfl⟩ ⟨⟨rfl, rfl, rfl, trivial⟩, ⟨fun o h => h, trivial⟩⟩ fun pos ⟨fuel, hf, he⟩ => ?_
  conv => whnf
  refine ifB_intro (fun h => ?_) (fun h => ?_)
  · have hlt : pos < s.size := by simpa using h
    conv => whnf
    have hw := runeW_pos s pos hlt
    refine CallP.det (hp (runeAt s pos) (runeAt_le s pos)) ?_
    conv => whnf
    cases fuel with
    | zero => omega
    | succ fuel =>
      simp only [runF, if_pos hlt] at he
      refine ifB_intro (fun h2 => ?_) (fun h2 => ?_)
      · have h2 : (!p (runeAt s pos)) = true := h2
        rw [Bool.not_eq_true'] at h2
        conv => whnf
        refine ⟨⟨[], ?_⟩⟩
        conv => whnf
        rw [he, h2]; rfl
      · have h2 : (!p (runeAt s pos)) = false := h2
        rw [Bool.not_eq_false'] at h2
        conv => whnf
        rw [h2, if_pos rfl] at he
        exact ⟨pos + runeW s pos, ⟨fuel, by omega, he⟩, by omega, ⟨⟨rfl, rfl, rfl, trivial⟩, ⟨fun o h => h, trivial⟩⟩⟩
  · have hge : s.size ≤ pos := by simpa using h
    conv => whnf
    refine ⟨⟨[], ?_⟩⟩
    conv => whnf
    have : runF p s fuel pos = s.size := by cases fuel <;> simp [runF]; omega
    rw [he, this]

structure TokT where
  kind : Int
  s : ByteArray
  n : Int
def rowK (t : TokT) : List D := [.i64 t.kind, .v (.string t.s), .u16 t.n]
def noTok : TokT := ⟨0, ⟨#[]⟩, 0⟩
/-- A token, how many bytes, an error. -/
structure PieceT where
  t : TokT
  n : Int
  e : Int
def PieceT.av (p : PieceT) : AV := .tup [.dagg (rowK p.t), .i64 p.n, .i64 p.e]

def isDigit (c : Int) : Bool := classF c == 3
theorem digit_ctr (g : GP) (hg : ∀ w, g.G w → LibG w) (c : Int) (hlo : -2147483648 ≤ c) (hhi : c ≤ 2147483647) : Ctr (ax g).E 130 [.d (.v (.int .i32 c))] [] (fun o => o = .ret (.bool (isDigit c)) []) := by
  refine Ctr.body (X := ax g) _ 6 [] [.tmp 2] Tryd.func130 rfl rfl rfl rfl (by decide +kernel) rfl rfl ?_
  conv => whnf
  refine CallP.det (class_ctr g hg c hlo hhi) ?_
  conv => whnf
  refine ⟨⟨[], ?_⟩⟩
  conv => whnf
  rfl
theorem notEol_ctr (g : GP) (c : Int) : Ctr (ax g).E 89 [.d (.v (.int .i32 c))] [] (fun o => o = .ret (.bool (c != 10)) []) := by
  refine Ctr.body (X := ax g) _ 5 [] [.tmp 2] Tryd.func89 rfl rfl rfl rfl (by decide +kernel) rfl rfl ?_
  conv => whnf
  refine ⟨⟨[], ?_⟩⟩
  conv => whnf

theorem runF_le (p : Int → Bool) (s : ByteArray) : ∀ (fuel pos : Nat), pos ≤ s.size → runF p s fuel pos ≤ s.size
  | 0, pos, _ => Nat.le_refl _
  | fuel + 1, pos, h => by
    simp only [runF]
    split
    · split
      · by_cases hw : pos + runeW s pos ≤ s.size
        · exact runF_le p s fuel _ hw
        · cases fuel with
          | zero => exact Nat.le_refl _
          | succ f => simp only [runF]; rw [if_neg (by omega)]; exact Nat.le_refl _
      · exact h
    · exact Nat.le_refl _

def markN (s : ByteArray) : Int := if Lib.hasPrefix s.data.toList [58, 61] || Lib.hasPrefix s.data.toList [61, 62] then 2 else 1
def markF (s : ByteArray) : PieceT := ⟨⟨3, s.extract 0 (markN s).toNat, 0⟩, markN s, 0⟩
theorem mark_ctr (g : GP) (s : ByteArray) (h1 : 0 < s.size) : Ctr (ax g).E 92 [.str s] [] (fun o => o = .ret (markF s).av []) := by
  have hpre : ∀ a b : UInt8, Lib.hasPrefix s.data.toList [a, b] = true → 2 ≤ s.size := fun a b h => by
    have : [a, b].length ≤ s.data.toList.length := (List.isPrefixOf_iff_prefix.1 h).length_le
    simpa using this
  refine Ctr.body (X := ax g) _ 17 [] [.cell 2 44, .tmp 3, .tmp 4] Tryd.func92 rfl rfl rfl rfl (by decide +kernel) rfl rfl ?_
  conv => whnf
  refine CallP.det (hasPrefix_ctr g s ⟨#[58, 61]⟩) ?_
  conv => whnf
  refine ifB_intro (fun h => ?_) (fun h => ?_)
  · rw [h]
    have h : Lib.hasPrefix s.data.toList [58, 61] = true := h
    have hm : markN s = 2 := by simp [markN, h]
    have := hpre _ _ h
    conv => whnf
    refine And.intro (Int.le_refl 0) ?_
    refine And.intro (show (0 : Int) ≤ 2 by decide) ?_
    refine And.intro (show (2 : Int) ≤ s.size by omega) ?_
    conv => whnf
    refine And.intro ⟨⟨_, _, rfl, rfl, Nat.le_of_ble_eq_true rfl⟩, ⟨_, _, rfl, rfl, Nat.le_of_ble_eq_true rfl⟩, trivial⟩ ?_
    conv => whnf
    refine And.intro rfl ?_
    conv => whnf
    refine ⟨⟨[], ?_⟩⟩
    conv => whnf
    repeat (refine And.intro (by first | exact rfl | decide | exact Nat.le_of_ble_eq_true rfl | exact ⟨_, rfl⟩ | exact ⟨_, _, rfl⟩) ?_; conv => whnf)
    rw [PieceT.av, markF, hm]; rfl
  · rw [h]
    have h : Lib.hasPrefix s.data.toList [58, 61] = false := h
    conv => whnf
    refine CallP.det (hasPrefix_ctr g s ⟨#[61, 62]⟩) ?_
    conv => whnf
    refine ifB_intro (fun h2 => ?_) (fun h2 => ?_)
    · have h2 : Lib.hasPrefix s.data.toList [61, 62] = true := h2
      have hm : markN s = 2 := by simp [markN, h2]
      have := hpre _ _ h2
      conv => whnf
      refine And.intro (Int.le_refl 0) ?_
      refine And.intro (show (0 : Int) ≤ 2 by decide) ?_
      refine And.intro (show (2 : Int) ≤ s.size by omega) ?_
      conv => whnf
      refine And.intro ⟨⟨_, _, rfl, rfl, Nat.le_of_ble_eq_true rfl⟩, ⟨_, _, rfl, rfl, Nat.le_of_ble_eq_true rfl⟩, trivial⟩ ?_
      conv => whnf
      refine And.intro rfl ?_
      conv => whnf
      refine ⟨⟨[], ?_⟩⟩
      conv => whnf
      repeat (refine And.intro (by first | exact rfl | decide | exact Nat.le_of_ble_eq_true rfl | exact ⟨_, rfl⟩ | exact ⟨_, _, rfl⟩) ?_; conv => whnf)
      rw [PieceT.av, markF, hm]; rfl
    · have h2 : Lib.hasPrefix s.data.toList [61, 62] = false := h2
      have hm : markN s = 1 := by simp [markN, h, h2]
      conv => whnf
      refine And.intro (Int.le_refl 0) ?_
      refine And.intro (show (0 : Int) ≤ 1 by decide) ?_
      refine And.intro (show (1 : Int) ≤ s.size by omega) ?_
      conv => whnf
      refine And.intro ⟨⟨_, _, rfl, rfl, Nat.le_of_ble_eq_true rfl⟩, ⟨_, _, rfl, rfl, Nat.le_of_ble_eq_true rfl⟩, trivial⟩ ?_
      conv => whnf
      refine And.intro rfl ?_
      conv => whnf
      refine ⟨⟨[], ?_⟩⟩
      conv => whnf
      repeat (refine And.intro (by first | exact rfl | decide | exact Nat.le_of_ble_eq_true rfl | exact ⟨_, rfl⟩ | exact ⟨_, _, rfl⟩) ?_; conv => whnf)
      rw [PieceT.av, markF, hm]; rfl

def errP (e : Int) : PieceT := ⟨noTok, 0, e⟩
def wordF (s : ByteArray) : PieceT :=
  if 20 < Lib.runeCount (s.extract 0 (runF withinF s s.size 0)) then errP 2 else ⟨⟨1, s.extract 0 (runF withinF s s.size 0), 0⟩, runF withinF s s.size 0, 0⟩
theorem word_ctr (g : GP) (hg : ∀ w, g.G w → LibG w) (s : ByteArray) (hs : s.size < 2 ^ 62) : Ctr (ax g).E 90 [.str s] [] (fun o => o = .ret (wordF s).av []) := by
  have hle := runF_le withinF s s.size 0 (Nat.zero_le _)
  refine Ctr.body (X := ax g) _ 19 [] [.cell 2 44, .tmp 3, .tmp 4] Tryd.func90 rfl rfl rfl rfl (by decide +kernel) rfl rfl ?_
  conv => whnf
  refine CallP.det (run_ctr g s 128 withinF (fun c hc => within_ctr g hg c (by omega) (by omega))) ?_
  conv => whnf
  generalize hn : runF withinF s s.size 0 = n at hle
  refine And.intro (Int.le_refl 0) ?_
  refine And.intro (show (0 : Int) ≤ (n : Int) by omega) ?_
  refine And.intro (show (n : Int) ≤ s.size by omega) ?_
  conv => whnf
  refine CallP.det (runeCount_ctr g (s.extract 0 n) (by simp; omega)) ?_
  conv => whnf
  refine ifB_intro (fun h => ?_) (fun h => ?_)
  · have h : 20 < Lib.runeCount (s.extract 0 n) := Int.ofNat_lt.1 (of_decide_eq_true h)
    conv => whnf
    refine And.intro trivial ?_
    conv => whnf
    refine And.intro rfl ?_
    conv => whnf
    refine ⟨⟨[], ?_⟩⟩
    conv => whnf
    repeat (refine And.intro (by first | exact rfl | decide | exact Nat.le_of_ble_eq_true rfl | exact ⟨_, rfl⟩ | exact ⟨_, _, rfl⟩) ?_; conv => whnf)
    rw [wordF, hn, if_pos h]; rfl
  · have h : ¬ 20 < Lib.runeCount (s.extract 0 n) := fun hh => of_decide_eq_false h (show (20 : Int) < (Lib.runeCount (s.extract 0 n) : Int) by omega)
    conv => whnf
    refine And.intro (Int.le_refl 0) ?_
    refine And.intro (show (0 : Int) ≤ (n : Int) by omega) ?_
    refine And.intro (show (n : Int) ≤ s.size by omega) ?_
    conv => whnf
    refine And.intro ⟨⟨_, _, rfl, rfl, Nat.le_of_ble_eq_true rfl⟩, ⟨_, _, rfl, rfl, Nat.le_of_ble_eq_true rfl⟩, trivial⟩ ?_
    conv => whnf
    refine And.intro rfl ?_
    conv => whnf
    refine ⟨⟨[], ?_⟩⟩
    conv => whnf
    repeat (refine And.intro (by first | exact rfl | decide | exact Nat.le_of_ble_eq_true rfl | exact ⟨_, rfl⟩ | exact ⟨_, _, rfl⟩) ?_; conv => whnf)
    rw [wordF, hn, if_neg h]; rfl

theorem isDigit_iff {c : Int} (h : isDigit c = true) : 48 ≤ c ∧ c ≤ 57 := by
  have h : classF c = 3 := by simpa [isDigit] using h
  unfold classF at h
  split at h
  · omega
  split at h
  · omega
  split at h
  · omega
  split at h
  · omega
  split at h
  · assumption
  split at h <;> omega

theorem rune_ascii {s : ByteArray} {pos : Nat} (h : pos < s.size) (ha : (s[pos]'h).toNat < 128) : runeAt s pos = (s[pos]'h).toNat ∧ runeW s pos = 1 := by
  have := decode_ascii s pos h ha
  simp [runeAt, runeW, this]

def DigAll (s : ByteArray) (a b : Nat) : Prop := ∀ j, a ≤ j → j < b → ∃ h : j < s.size, 48 ≤ (s[j]'h).toNat ∧ (s[j]'h).toNat ≤ 57
theorem runF_digit (s : ByteArray) : ∀ (fuel pos : Nat), s.size ≤ pos + fuel → pos ≤ s.size → pos ≤ runF isDigit s fuel pos ∧ DigAll s pos (runF isDigit s fuel pos)
  | 0, pos, h1, h2 => ⟨by simp only [runF]; exact h2, fun j h3 h4 => by simp only [runF] at h4; omega⟩
  | fuel + 1, pos, h1, h2 => by
    simp only [runF]
    by_cases hlt : pos < s.size
    · rw [if_pos hlt]
      by_cases hd : isDigit (runeAt s pos) = true
      · rw [if_pos hd]
        obtain ⟨g1, g2⟩ := isDigit_iff hd
        have ha : (s[pos]'hlt).toNat < 128 := by
          rcases Nat.lt_or_ge (s[pos]'hlt).toNat 128 with h | h
          · exact h
          · have := (decode_high s pos hlt h).1
            have e : runeAt s pos = (Utf8.decode s pos).1 := rfl
            omega
        obtain ⟨r1, r2⟩ := rune_ascii hlt ha
        rw [r2]
        obtain ⟨i1, i2⟩ := runF_digit s fuel (pos + 1) (by omega) (by omega)
        refine ⟨by omega, fun j h3 h4 => ?_⟩
        by_cases hj : j = pos
        · subst hj; exact ⟨hlt, by omega, by omega⟩
        · exact i2 j (by omega) h4
      · rw [if_neg hd]
        exact ⟨Nat.le_refl _, fun j h3 h4 => by omega⟩
    · rw [if_neg hlt]
      exact ⟨h2, fun j h3 h4 => by omega⟩

def numGo (d : ByteArray) : Nat → Nat → Int → Option Int
  | 0, _, v => some v
  | f + 1, pos, v => if 65535 < 10 * v + (byteAt d pos - 48) then none else numGo d f (pos + 1) (10 * v + (byteAt d pos - 48))
def numberF (s : ByteArray) : PieceT :=
  if (runF isDigit s s.size 0 < s.size) ∧ withinF (Lib.decodeGo (s.extract (runF isDigit s s.size 0) s.size)).1 = true then errP 10 else
  match numGo (s.extract 0 (runF isDigit s s.size 0)) (runF isDigit s s.size 0) 0 0 with
  | none => errP 2
  | some v => ⟨⟨2, ⟨#[]⟩, v⟩, runF isDigit s s.size 0, 0⟩

theorem i32_wrap {n : Int} (h0 : -2147483648 ≤ n) (h1 : n < 2147483648) : IntKind.i32.wrap n = n := by rw [IntKind.wrap_i32]; omega
theorem u16_wrap {n : Int} (h0 : 0 ≤ n) (h1 : n < 65536) : IntKind.u16.wrap n = n := by rw [IntKind.wrap_u16]; omega

theorem number_ctr (g : GP) (hg : ∀ w, g.G w → LibG w) (s : ByteArray) (hs : s.size < 2 ^ 62) : Ctr (ax g).E 91 [.str s] [] (fun o => o = .ret (numberF s).av []) := by
  have hle := runF_le isDigit s s.size 0 (Nat.zero_le _)
  have hdig := (runF_digit s s.size 0 (by omega) (Nat.zero_le _)).2
  refine Ctr.body (X := ax g) _ 49 [] [.cell 2 44, .tmp 3, .tmp 4] Tryd.func91 rfl rfl rfl rfl (by decide +kernel) rfl rfl ?_
  conv => whnf
  refine CallP.det (run_ctr g s 130 isDigit (fun c hc => digit_ctr g hg c (by omega) (by omega))) ?_
  conv => whnf
  have hF : numberF s = numberF s := rfl
  conv at hF => rhs; unfold numberF
  generalize hn : runF isDigit s s.size 0 = n at hle hdig hF
  refine And.intro (show (0 : Int) ≤ (n : Int) by omega) ?_
  refine And.intro (show (n : Int) ≤ s.size by omega) ?_
  refine And.intro (Int.le_refl _) ?_
  conv => whnf
  refine CallP.det (decode_ctr g hg (s.extract n s.size)) ?_
  conv => whnf
  have hr : ((Lib.decodeGo (s.extract n s.size)).1 : Int) ≤ 2147483647 := by
    have : (Lib.decodeGo (s.extract n s.size)).1 ≤ 2147483647 := by
      unfold Lib.decodeGo
      split
      · decide
      · exact decode_le _ 0
    omega
  -- the digits' loop and what follows
  have hby : ∀ j, j < n → ∃ h : j < (s.extract 0 n).size, 48 ≤ ((s.extract 0 n)[j]'h).toNat ∧ ((s.extract 0 n)[j]'h).toNat ≤ 57 := fun j hj => by
    obtain ⟨h1, h2, h3⟩ := hdig j (Nat.zero_le _) hj
    have hsz : j < (s.extract 0 n).size := by simp; omega
    refine ⟨hsz, ?_⟩
    have : (s.extract 0 n)[j]'hsz = s[j]'h1 := by simp [ByteArray.getElem_extract]
    rw [this]; exact ⟨h2, h3⟩
  have hdz : (s.extract 0 n).size = n := by simp; omega
  refine ifB_intro (fun h => ?_) (fun h => ?_)
  · rw [h]
    have h : n < s.size := Int.ofNat_lt.1 (of_decide_eq_true h)
    conv => whnf
    refine CallP.det (within_ctr g hg _ (by omega) hr) ?_
    conv => whnf
    refine ifB_intro (fun h2 => ?_) (fun h2 => ?_)
    · have h2 : withinF (Lib.decodeGo (s.extract n s.size)).1 = true := h2
      rw [if_pos ⟨h, h2⟩] at hF
      conv => whnf
      refine And.intro trivial ?_
      conv => whnf
      refine And.intro rfl ?_
      conv => whnf
      refine ⟨⟨[], ?_⟩⟩
      conv => whnf
      repeat (refine And.intro (by first | exact rfl | decide | exact Nat.le_of_ble_eq_true rfl | exact ⟨_, rfl⟩ | exact ⟨_, _, rfl⟩) ?_; conv => whnf)
      rw [hF]; rfl
    · have h2 : withinF (Lib.decodeGo (s.extract n s.size)).1 = false := h2
      rw [if_neg (fun hh => by rw [h2] at hh; simp at hh)] at hF
      conv => whnf
      refine And.intro (Int.le_refl 0) ?_
      refine And.intro (show (0 : Int) ≤ (n : Int) by omega) ?_
      refine And.intro (show (n : Int) ≤ s.size by omega) ?_
      conv => whnf
      refine LoopP.inv (X := ax g) (fun x : Nat × Int => { f := [(0, .str s), (2, .ptr 2 0), (3, .i64 0), (4, .i64 0), (5, .i64 n), (8, .i64 x.2), (32, .ptr 32 0)], h := [(32, some (.siter (s.extract 0 n) x.1)), (2, some (.dvar 3 (rowK noTok)))] }) (fun x => x.1 ≤ n ∧ 0 ≤ x.2 ∧ x.2 ≤ 65535 ∧ numGo (s.extract 0 n) n 0 0 = numGo (s.extract 0 n) (n - x.1) x.1 x.2) (fun x => n - x.1) (0, 0) ⟨Nat.zero_le _, by simp, by simp, rfl⟩ ⟨⟨rfl, rfl, rfl, rfl, rfl, rfl, rfl, trivial⟩, ⟨fun o h => h, fun o h => h, trivial⟩⟩ fun ⟨pos, v⟩ ⟨hp, hv0, hv1, he⟩ => ?_
      have hp : pos ≤ n := hp
      have hv0 : 0 ≤ v := hv0
      have hv1 : v ≤ 65535 := hv1
      have he : numGo (s.extract 0 n) n 0 0 = numGo (s.extract 0 n) (n - pos) pos v := he
      conv => whnf
      refine ifB_intro (fun h5 => ?_) (fun h5 => ?_)
      · have hlt : pos < n := by
          have h5 : pos < (s.extract 0 n).size := of_decide_eq_true h5
          omega
        obtain ⟨hz, hb1, hb2⟩ := hby pos hlt
        obtain ⟨ha1, ha2⟩ := rune_ascii hz (by omega)
        have hbt : byteAt (s.extract 0 n) pos = (((s.extract 0 n)[pos]'hz).toNat : Int) := by
          simp only [byteAt, Int.toNat_natCast]; rw [dif_pos hz]
        conv => whnf
        have hstep : IntKind.i64.wrap (IntKind.i64.wrap (10 * v) + IntKind.i64.wrap (IntKind.i32.wrap ((runeAt (s.extract 0 n) pos : Int) - 48))) = 10 * v + (byteAt (s.extract 0 n) pos - 48) := by
          rw [ha1, hbt, i32_wrap (by omega) (by omega), i64_wrap (n := 10 * v) (by omega) (by omega), i64_wrap (n := (((s.extract 0 n)[pos]'hz).toNat : Int) - 48) (by omega) (by omega), i64_wrap (by omega) (by omega)]
        have hnp : n - pos = (n - (pos + 1)) + 1 := by omega
        rw [hnp, numGo] at he
        refine ifB_intro (fun h6 => ?_) (fun h6 => ?_)
        · have h6 : 65535 < 10 * v + (byteAt (s.extract 0 n) pos - 48) := by
            have h6 := of_decide_eq_true h6
            rw [← hstep]; exact h6
          rw [if_pos h6] at he
          rw [he] at hF
          conv => whnf
          refine And.intro trivial ?_
          conv => whnf
          refine And.intro rfl ?_
          conv => whnf
          refine ⟨⟨[], ?_⟩⟩
          conv => whnf
          repeat (refine And.intro (by first | exact rfl | decide | exact Nat.le_of_ble_eq_true rfl | exact ⟨_, rfl⟩ | exact ⟨_, _, rfl⟩) ?_; conv => whnf)
          rw [hF]; rfl
        · have h6 : ¬ 65535 < 10 * v + (byteAt (s.extract 0 n) pos - 48) := by
            have h6 := of_decide_eq_false h6
            rw [← hstep]; exact h6
          rw [if_neg h6] at he
          conv => whnf
          exact ⟨(pos + 1, 10 * v + (byteAt (s.extract 0 n) pos - 48)), ⟨hlt, by show 0 ≤ 10 * v + (byteAt (s.extract 0 n) pos - 48); rw [hbt]; omega, by show 10 * v + (byteAt (s.extract 0 n) pos - 48) ≤ 65535; omega, he⟩, by show n - (pos + 1) < n - pos; omega, ⟨⟨rfl, rfl, rfl, rfl, rfl, AV.int_eq hstep, rfl, trivial⟩, ⟨fun o h => by show some (AObj.siter (s.extract 0 n) (pos + runeW (s.extract 0 n) pos)) = some o; rw [ha2]; exact h, fun o h => h, trivial⟩⟩⟩
      · have hpn : pos = n := by
          have h5 : ¬ pos < (s.extract 0 n).size := of_decide_eq_false h5
          omega
        subst hpn
        rw [Nat.sub_self, numGo] at he
        rw [he] at hF
        conv => whnf
        refine And.intro ⟨⟨_, _, rfl, rfl, Nat.le_of_ble_eq_true rfl⟩, ⟨_, _, rfl, rfl, Nat.le_of_ble_eq_true rfl⟩, trivial⟩ ?_
        conv => whnf
        refine And.intro rfl ?_
        conv => whnf
        refine ⟨⟨[], ?_⟩⟩
        conv => whnf
        repeat (refine And.intro (by first | exact rfl | decide | exact Nat.le_of_ble_eq_true rfl | exact ⟨_, rfl⟩ | exact ⟨_, _, rfl⟩) ?_; conv => whnf)
        rw [hF]
        show AOut.ret (.tup [.dagg [.i64 2, .v (.string ⟨#[]⟩), .u16 (IntKind.u16.wrap v)], _, _]) [] = _
        rw [u16_wrap hv0 (by omega)]; rfl
  · rw [h]
    have h : ¬ n < s.size := fun hh => of_decide_eq_false h (Int.ofNat_lt.2 hh)
    rw [if_neg (fun hh => h hh.1)] at hF
    · conv => whnf
      refine And.intro (Int.le_refl 0) ?_
      refine And.intro (show (0 : Int) ≤ (n : Int) by omega) ?_
      refine And.intro (show (n : Int) ≤ s.size by omega) ?_
      conv => whnf
      refine LoopP.inv (X := ax g) (fun x : Nat × Int => { f := [(0, .str s), (2, .ptr 2 0), (3, .i64 0), (4, .i64 0), (5, .i64 n), (8, .i64 x.2), (32, .ptr 32 0)], h := [(32, some (.siter (s.extract 0 n) x.1)), (2, some (.dvar 3 (rowK noTok)))] }) (fun x => x.1 ≤ n ∧ 0 ≤ x.2 ∧ x.2 ≤ 65535 ∧ numGo (s.extract 0 n) n 0 0 = numGo (s.extract 0 n) (n - x.1) x.1 x.2) (fun x => n - x.1) (0, 0) ⟨Nat.zero_le _, by simp, by simp, rfl⟩ ⟨⟨rfl, rfl, rfl, rfl, rfl, rfl, rfl, trivial⟩, ⟨fun o h => h, fun o h => h, trivial⟩⟩ fun ⟨pos, v⟩ ⟨hp, hv0, hv1, he⟩ => ?_
      have hp : pos ≤ n := hp
      have hv0 : 0 ≤ v := hv0
      have hv1 : v ≤ 65535 := hv1
      have he : numGo (s.extract 0 n) n 0 0 = numGo (s.extract 0 n) (n - pos) pos v := he
      conv => whnf
      refine ifB_intro (fun h5 => ?_) (fun h5 => ?_)
      · have hlt : pos < n := by
          have h5 : pos < (s.extract 0 n).size := of_decide_eq_true h5
          omega
        obtain ⟨hz, hb1, hb2⟩ := hby pos hlt
        obtain ⟨ha1, ha2⟩ := rune_ascii hz (by omega)
        have hbt : byteAt (s.extract 0 n) pos = (((s.extract 0 n)[pos]'hz).toNat : Int) := by
          simp only [byteAt, Int.toNat_natCast]; rw [dif_pos hz]
        conv => whnf
        have hstep : IntKind.i64.wrap (IntKind.i64.wrap (10 * v) + IntKind.i64.wrap (IntKind.i32.wrap ((runeAt (s.extract 0 n) pos : Int) - 48))) = 10 * v + (byteAt (s.extract 0 n) pos - 48) := by
          rw [ha1, hbt, i32_wrap (by omega) (by omega), i64_wrap (n := 10 * v) (by omega) (by omega), i64_wrap (n := (((s.extract 0 n)[pos]'hz).toNat : Int) - 48) (by omega) (by omega), i64_wrap (by omega) (by omega)]
        have hnp : n - pos = (n - (pos + 1)) + 1 := by omega
        rw [hnp, numGo] at he
        refine ifB_intro (fun h6 => ?_) (fun h6 => ?_)
        · have h6 : 65535 < 10 * v + (byteAt (s.extract 0 n) pos - 48) := by
            have h6 := of_decide_eq_true h6
            rw [← hstep]; exact h6
          rw [if_pos h6] at he
          rw [he] at hF
          conv => whnf
          refine And.intro trivial ?_
          conv => whnf
          refine And.intro rfl ?_
          conv => whnf
          refine ⟨⟨[], ?_⟩⟩
          conv => whnf
          repeat (refine And.intro (by first | exact rfl | decide | exact Nat.le_of_ble_eq_true rfl | exact ⟨_, rfl⟩ | exact ⟨_, _, rfl⟩) ?_; conv => whnf)
          rw [hF]; rfl
        · have h6 : ¬ 65535 < 10 * v + (byteAt (s.extract 0 n) pos - 48) := by
            have h6 := of_decide_eq_false h6
            rw [← hstep]; exact h6
          rw [if_neg h6] at he
          conv => whnf
          exact ⟨(pos + 1, 10 * v + (byteAt (s.extract 0 n) pos - 48)), ⟨hlt, by show 0 ≤ 10 * v + (byteAt (s.extract 0 n) pos - 48); rw [hbt]; omega, by show 10 * v + (byteAt (s.extract 0 n) pos - 48) ≤ 65535; omega, he⟩, by show n - (pos + 1) < n - pos; omega, ⟨⟨rfl, rfl, rfl, rfl, rfl, AV.int_eq hstep, rfl, trivial⟩, ⟨fun o h => by show some (AObj.siter (s.extract 0 n) (pos + runeW (s.extract 0 n) pos)) = some o; rw [ha2]; exact h, fun o h => h, trivial⟩⟩⟩
      · have hpn : pos = n := by
          have h5 : ¬ pos < (s.extract 0 n).size := of_decide_eq_false h5
          omega
        subst hpn
        rw [Nat.sub_self, numGo] at he
        rw [he] at hF
        conv => whnf
        refine And.intro ⟨⟨_, _, rfl, rfl, Nat.le_of_ble_eq_true rfl⟩, ⟨_, _, rfl, rfl, Nat.le_of_ble_eq_true rfl⟩, trivial⟩ ?_
        conv => whnf
        refine And.intro rfl ?_
        conv => whnf
        refine ⟨⟨[], ?_⟩⟩
        conv => whnf
        repeat (refine And.intro (by first | exact rfl | decide | exact Nat.le_of_ble_eq_true rfl | exact ⟨_, rfl⟩ | exact ⟨_, _, rfl⟩) ?_; conv => whnf)
        rw [hF]
        show AOut.ret (.tup [.dagg [.i64 2, .v (.string ⟨#[]⟩), .u16 (IntKind.u16.wrap v)], _, _]) [] = _
        rw [u16_wrap hv0 (by omega)]; rfl
end Go.Ax

namespace Go.Ax
open Go.Proofs Go.Lib
set_option maxRecDepth 10000

/-- Tokens, or an error. -/
def stepF (s : ByteArray) : PieceT :=
  let k := classF (Lib.decodeGo s).1
  if k = 2 then wordF s else if k = 3 then numberF s else if k = 5 then markF s else errP 10
def tokGo : Nat → ByteArray → List TokT → Option (List TokT) × Int
  | 0, _, _ => (none, 0)
  | f + 1, s, acc => if s.size = 0 then (some (acc ++ [noTok]), 0) else
    if classF (Lib.decodeGo s).1 = 0 then tokGo f (s.extract (Lib.decodeGo s).2 s.size) acc else
    if classF (Lib.decodeGo s).1 = 1 then tokGo f (s.extract (runF (· != 10) s s.size 0) s.size) acc else
    if (stepF s).e ≠ 0 then (none, (stepF s).e) else tokGo f (s.extract (stepF s).n.toNat s.size) (acc ++ [(stepF s).t])
def tokensF (V : ByteArray → Bool) (s : ByteArray) : Option (List TokT) × Int :=
  if 4000 < s.size then (none, 2) else if V s = false then (none, 10) else tokGo (s.size + 1) s []
def tokAV : Option (List TokT) × Int → AV
  | (some l, e) => .tup [.d (.sl false 3 (l.map rowK)), .i64 e]
  | (none, e) => .tup [.d (.v (.slice none 0 0)), .i64 e]

theorem runF_ge (p : Int → Bool) (s : ByteArray) : ∀ (f pos : Nat), min pos s.size ≤ runF p s f pos
  | 0, pos => by simp only [runF]; omega
  | f + 1, pos => by
    simp only [runF]
    split
    · split
      · have := runF_ge p s f (pos + runeW s pos)
        omega
      · omega
    · omega
theorem runF_pos (p : Int → Bool) (s : ByteArray) (h : 0 < s.size) (hp : p (runeAt s 0) = true) : 1 ≤ runF p s s.size 0 := by
  obtain ⟨f, hf⟩ : ∃ f, s.size = f + 1 := ⟨s.size - 1, by omega⟩
  conv => rhs; arg 3; rw [hf]
  simp only [runF, if_pos h, hp, if_true, Nat.zero_add]
  have := runF_ge p s f (runeW s 0)
  have := runeW_pos s 0 h
  omega
theorem decodeGo_rune {s : ByteArray} (h : 0 < s.size) : (Lib.decodeGo s).1 = runeAt s 0 ∧ (Lib.decodeGo s).2 = runeW s 0 := by
  unfold Lib.decodeGo
  rw [if_neg (by omega)]; exact ⟨rfl, rfl⟩
/-- A piece that is no error has bytes, and no more than there are. -/
theorem stepF_n {s : ByteArray} (h : 0 < s.size) (he : (stepF s).e = 0) : 1 ≤ (stepF s).n ∧ (stepF s).n ≤ s.size := by
  obtain ⟨r1, _⟩ := decodeGo_rune h
  unfold stepF at he ⊢
  simp only at he ⊢
  split at he
  · rename_i hc
    rw [if_pos hc]
    unfold wordF at he ⊢
    split at he
    · simp [errP] at he
    · rename_i hr
      rw [if_neg hr]
      have h1 := runF_pos withinF s h (by rw [← r1, withinF, hc]; rfl)
      have h2 := runF_le withinF s s.size 0 (Nat.zero_le _)
      simp only; omega
  · rename_i hc2
    split at he
    · rename_i hc
      rw [if_neg hc2, if_pos hc]
      unfold numberF at he ⊢
      split at he
      · simp [errP] at he
      · rename_i hr
        rw [if_neg hr]
        split at he
        · simp [errP] at he
        · rename_i v hv
          have h1 := runF_pos isDigit s h (by rw [← r1, isDigit, hc]; rfl)
          have h2 := runF_le isDigit s s.size 0 (Nat.zero_le _)
          simp only; omega
    · rename_i hc3
      split at he
      · rename_i hc
        rw [if_neg hc2, if_neg hc3, if_pos hc]
        simp only [markF, markN]
        split
        · rename_i hh
          have : ∀ a b : UInt8, Lib.hasPrefix s.data.toList [a, b] = true → 2 ≤ s.size := fun a b h => by
            have : [a, b].length ≤ s.data.toList.length := (List.isPrefixOf_iff_prefix.1 h).length_le
            simpa using this
          rw [Bool.or_eq_true] at hh
          have := hh.elim (this _ _) (this _ _)
          omega
        · omega
      · simp [errP] at he

set_option maxHeartbeats 1000000 in
theorem tokens_ctr (g : GP) (hg : ∀ w, g.G w → LibG w) (V : ByteArray → Bool) (hV : ∀ s : ByteArray, s.size ≤ 4000 → Ctr (ax g).E 85 [.str s] [] (fun o => o = .ret (.bool (V s)) [])) (s : ByteArray) (hs : s.size < 2 ^ 62) : Ctr (ax g).E 27 [.str s] [] (fun o => o = .ret (tokAV (tokensF V s)) []) := by
  refine Ctr.body (X := ax g) _ 76 [] [.tmp 2, .tmp 3] Tryd.func27 rfl rfl rfl rfl (by decide +kernel) rfl rfl ?_
  conv => whnf
  refine ifB_intro (fun h => ?_) (fun h => ?_)
  · have h : 4000 < s.size := Int.ofNat_lt.1 (of_decide_eq_true h)
    conv => whnf
    refine ⟨⟨[], ?_⟩⟩
    conv => whnf
    rw [tokensF, if_pos h]; rfl
  · have h : ¬ 4000 < s.size := fun hh => of_decide_eq_false h (Int.ofNat_lt.2 hh)
    conv => whnf
    refine CallP.det (hV s (by omega)) ?_
    conv => whnf
    refine ifB_intro (fun h2 => ?_) (fun h2 => ?_)
    · have h2 : (!V s) = true := h2
      rw [Bool.not_eq_true'] at h2
      conv => whnf
      refine ⟨⟨[], ?_⟩⟩
      conv => whnf
      rw [tokensF, if_neg h, if_pos h2]; rfl
    · have h2 : (!V s) = false := h2
      rw [Bool.not_eq_false'] at h2
      have hT : tokensF V s = tokGo (s.size + 1) s [] := by rw [tokensF, if_neg h, if_neg (by rw [h2]; simp)]
      conv => whnf
      refine LoopP.own 4 68 3 44 rfl rfl rfl ?_
      refine LoopP.inv (X := ax g) (fun x : ByteArray × List TokT => { f := [(0, .str x.1), (4, .msl 68 x.2.length 0 x.2.length)], h := [(68, some (.buf 3 44 (x.2.map rowK)))] }) (fun x => x.2.length + x.1.size ≤ 4000 ∧ ∃ f, x.1.size < f ∧ tokensF V s = tokGo f x.1 x.2) (fun x => x.1.size) (s, []) ⟨by simp; omega, s.size + 1, by simp, hT⟩ ⟨⟨rfl, rfl, trivial⟩, ⟨fun o h => h, trivial⟩⟩ fun ⟨u, acc⟩ ⟨hsz, f, hf, he⟩ => ?_
      have hsz : acc.length + u.size ≤ 4000 := hsz
      have he : tokensF V s = tokGo f u acc := he
      have hf : u.size < f := hf
      conv => whnf
      refine ifB_intro (fun h3 => ?_) (fun h3 => ?_)
      · have hne : 0 < u.size := by
          rcases Nat.eq_zero_or_pos u.size with hz | hz
          · exfalso
            have : u = ⟨#[]⟩ := by
              obtain ⟨a⟩ := u
              have : a = #[] := Array.eq_empty_of_size_eq_zero hz
              rw [this]
            subst this
            have h3 : (!((⟨#[]⟩ : ByteArray).data.toList == (⟨#[]⟩ : ByteArray).data.toList)) = true := h3
            simp at h3
          · exact hz
        obtain ⟨f', rfl⟩ : ∃ f', f = f' + 1 := ⟨f - 1, by omega⟩
        rw [tokGo, if_neg (by omega)] at he
        obtain ⟨r1, r2⟩ := decodeGo_rune hne
        have hw := runeW_pos u 0 hne
        have hwle := decodeGo_le_size u
        have hrl := runeAt_le u 0
        conv => whnf
        refine CallP.det (decode_ctr g hg u) ?_
        conv => whnf
        refine CallP.det (class_ctr g hg _ (by omega) (by omega)) ?_
        conv => whnf
        refine ifB_intro (fun h4 => ?_) (fun h4 => ?_)
        · have h4 : classF (Lib.decodeGo u).1 = 0 := by simpa using h4
          rw [if_pos h4] at he
          conv => whnf
          refine And.intro (show (0 : Int) ≤ ((Lib.decodeGo u).2 : Int) by omega) ?_
          refine And.intro (show ((Lib.decodeGo u).2 : Int) ≤ u.size by omega) ?_
          refine And.intro (Int.le_refl _) ?_
          conv => whnf
          exact ⟨(u.extract (Lib.decodeGo u).2 u.size, acc), ⟨by show acc.length + (u.extract (Lib.decodeGo u).2 u.size).size ≤ 4000; simp; omega, f', by show (u.extract (Lib.decodeGo u).2 u.size).size < f'; simp; omega, he⟩, by show (u.extract (Lib.decodeGo u).2 u.size).size < u.size; simp; omega, ⟨⟨rfl, rfl, trivial⟩, ⟨fun o h => h, trivial⟩⟩⟩
        · have h4 : ¬ classF (Lib.decodeGo u).1 = 0 := by simpa using h4
          rw [if_neg h4] at he
          conv => whnf
          refine ifB_intro (fun h5 => ?_) (fun h5 => ?_)
          · have h5 : classF (Lib.decodeGo u).1 = 1 := by simpa using h5
            rw [if_pos h5] at he
            conv => whnf
            refine CallP.det (run_ctr g u 89 (· != 10) (fun c _ => notEol_ctr g c)) ?_
            conv => whnf
            have hr1 : 1 ≤ runF (· != 10) u u.size 0 := runF_pos _ u hne (by
              have hc : classF (runeAt u 0) = 1 := by rw [← r1]; exact h5
              by_cases h10 : (runeAt u 0 : Int) = 10
              · rw [h10] at hc; exact absurd hc (by decide)
              · simpa using h10)
            have hr2 := runF_le (· != 10) u u.size 0 (Nat.zero_le _)
            generalize hN : runF (· != 10) u u.size 0 = N at hr1 hr2 he
            refine And.intro (show (0 : Int) ≤ (N : Int) by omega) ?_
            refine And.intro (show (N : Int) ≤ u.size by omega) ?_
            refine And.intro (Int.le_refl _) ?_
            conv => whnf
            exact ⟨(u.extract N u.size, acc), ⟨by show acc.length + (u.extract N u.size).size ≤ 4000; simp; omega, f', by show (u.extract N u.size).size < f'; simp; omega, he⟩, by show (u.extract N u.size).size < u.size; simp; omega, ⟨⟨rfl, rfl, trivial⟩, ⟨fun o h => h, trivial⟩⟩⟩
          · have h5 : ¬ classF (Lib.decodeGo u).1 = 1 := by simpa using h5
            rw [if_neg h5] at he
            conv => whnf
            refine ifB_intro (fun h6 => ?_) (fun h6 => ?_)
            · have h6 : classF (Lib.decodeGo u).1 = 2 := by simpa using h6
              conv => whnf
              refine CallP.det (word_ctr g hg u (by omega)) ?_
              conv => whnf
              refine And.intro rfl ?_
              conv => whnf
              have hst : stepF u = wordF u := by simp only [stepF, h6, if_true]
              rw [hst] at he
              refine ifB_intro (fun h7 => ?_) (fun h7 => ?_)
              · have h7 : (wordF u).e ≠ 0 := by simpa using h7
                rw [if_pos h7] at he
                conv => whnf
                refine ⟨⟨[], ?_⟩⟩
                conv => whnf
                rw [he]; rfl
              · have h7 : (wordF u).e = 0 := by simpa using h7
                rw [if_neg (by simp [h7])] at he
                have hnn := stepF_n hne (by rw [hst]; exact h7)
                rw [hst] at hnn
                conv => whnf
                refine DrawP.intro (X := ax g) B27_24 (by kernel_rfl) (by decide +kernel) ?_
                conv => whnf
                repeat (refine And.intro (by first | exact rfl | decide | exact Nat.le_of_ble_eq_true rfl | exact ⟨_, rfl⟩ | exact ⟨_, _, rfl⟩) ?_; conv => whnf)
                refine And.intro (List.length_map ..).symm ?_
                refine And.intro rfl ?_
                refine And.intro (by show ((acc.map rowK).length + 1) * 32 ≤ 140737488355328; simp; omega) ?_
                conv => whnf
                refine And.intro (show (0 : Int) ≤ (wordF u).n by omega) ?_
                refine And.intro (show (wordF u).n ≤ u.size by omega) ?_
                refine And.intro (Int.le_refl _) ?_
                conv => whnf
                exact ⟨(u.extract (wordF u).n.toNat u.size, acc ++ [(wordF u).t]), ⟨by show (acc ++ [(wordF u).t]).length + (u.extract (wordF u).n.toNat u.size).size ≤ 4000; simp; omega, f', by show (u.extract (wordF u).n.toNat u.size).size < f'; simp; omega, he⟩, by show (u.extract (wordF u).n.toNat u.size).size < u.size; simp; omega, ⟨⟨rfl, msl_eq (by simp), trivial⟩, ⟨fun o h => by rw [List.map_append] at h; exact h, trivial⟩⟩⟩
            · have h6 : ¬ classF (Lib.decodeGo u).1 = 2 := by simpa using h6
              conv => whnf
              refine ifB_intro (fun h8 => ?_) (fun h8 => ?_)
              · have h8 : classF (Lib.decodeGo u).1 = 3 := by simpa using h8
                conv => whnf
                refine CallP.det (number_ctr g hg u (by omega)) ?_
                conv => whnf
                refine And.intro rfl ?_
                conv => whnf
                have hst : stepF u = numberF u := by simp only [stepF]; rw [if_neg h6, if_pos h8]
                rw [hst] at he
                refine ifB_intro (fun h7 => ?_) (fun h7 => ?_)
                · have h7 : (numberF u).e ≠ 0 := by simpa using h7
                  rw [if_pos h7] at he
                  conv => whnf
                  refine ⟨⟨[], ?_⟩⟩
                  conv => whnf
                  rw [he]; rfl
                · have h7 : (numberF u).e = 0 := by simpa using h7
                  rw [if_neg (by simp [h7])] at he
                  have hnn := stepF_n hne (by rw [hst]; exact h7)
                  rw [hst] at hnn
                  conv => whnf
                  refine DrawP.intro (X := ax g) B27_24 (by kernel_rfl) (by decide +kernel) ?_
                  conv => whnf
                  repeat (refine And.intro (by first | exact rfl | decide | exact Nat.le_of_ble_eq_true rfl | exact ⟨_, rfl⟩ | exact ⟨_, _, rfl⟩) ?_; conv => whnf)
                  refine And.intro (List.length_map ..).symm ?_
                  refine And.intro rfl ?_
                  refine And.intro (by show ((acc.map rowK).length + 1) * 32 ≤ 140737488355328; simp; omega) ?_
                  conv => whnf
                  refine And.intro (show (0 : Int) ≤ (numberF u).n by omega) ?_
                  refine And.intro (show (numberF u).n ≤ u.size by omega) ?_
                  refine And.intro (Int.le_refl _) ?_
                  conv => whnf
                  exact ⟨(u.extract (numberF u).n.toNat u.size, acc ++ [(numberF u).t]), ⟨by show (acc ++ [(numberF u).t]).length + (u.extract (numberF u).n.toNat u.size).size ≤ 4000; simp; omega, f', by show (u.extract (numberF u).n.toNat u.size).size < f'; simp; omega, he⟩, by show (u.extract (numberF u).n.toNat u.size).size < u.size; simp; omega, ⟨⟨rfl, msl_eq (by simp), trivial⟩, ⟨fun o h => by rw [List.map_append] at h; exact h, trivial⟩⟩⟩
              · have h8 : ¬ classF (Lib.decodeGo u).1 = 3 := by simpa using h8
                conv => whnf
                refine ifB_intro (fun h9 => ?_) (fun h9 => ?_)
                · have h9 : classF (Lib.decodeGo u).1 = 5 := by simpa using h9
                  conv => whnf
                  refine CallP.det (mark_ctr g u hne) ?_
                  conv => whnf
                  refine And.intro rfl ?_
                  conv => whnf
                  have hst : stepF u = markF u := by simp only [stepF]; rw [if_neg h6, if_neg h8, if_pos h9]
                  rw [hst] at he
                  have h7 : (markF u).e = 0 := rfl
                  rw [if_neg (by simp [h7])] at he
                  have hnn := stepF_n hne (by rw [hst]; exact h7)
                  rw [hst] at hnn
                  refine DrawP.intro (X := ax g) B27_24 (by kernel_rfl) (by decide +kernel) ?_
                  conv => whnf
                  repeat (refine And.intro (by first | exact rfl | decide | exact Nat.le_of_ble_eq_true rfl | exact ⟨_, rfl⟩ | exact ⟨_, _, rfl⟩) ?_; conv => whnf)
                  refine And.intro (List.length_map ..).symm ?_
                  refine And.intro rfl ?_
                  refine And.intro (by show ((acc.map rowK).length + 1) * 32 ≤ 140737488355328; simp; omega) ?_
                  conv => whnf
                  refine And.intro (show (0 : Int) ≤ (markF u).n by omega) ?_
                  refine And.intro (show (markF u).n ≤ u.size by omega) ?_
                  refine And.intro (Int.le_refl _) ?_
                  conv => whnf
                  exact ⟨(u.extract (markF u).n.toNat u.size, acc ++ [(markF u).t]), ⟨by show (acc ++ [(markF u).t]).length + (u.extract (markF u).n.toNat u.size).size ≤ 4000; simp; omega, f', by show (u.extract (markF u).n.toNat u.size).size < f'; simp; omega, he⟩, by show (u.extract (markF u).n.toNat u.size).size < u.size; simp; omega, ⟨⟨rfl, msl_eq (by simp), trivial⟩, ⟨fun o h => by rw [List.map_append] at h; exact h, trivial⟩⟩⟩
                · have h9 : ¬ classF (Lib.decodeGo u).1 = 5 := by simpa using h9
                  have hst : stepF u = errP 10 := by simp only [stepF]; rw [if_neg h6, if_neg h8, if_neg h9]
                  rw [hst, if_pos (by decide)] at he
                  conv => whnf
                  refine ⟨⟨[], ?_⟩⟩
                  conv => whnf
                  rw [he]; rfl
      · have hz : u.size = 0 := by
          rcases Nat.eq_zero_or_pos u.size with hz | hz
          · exact hz
          · exfalso
            have h3 : (!(u.data.toList == (⟨#[]⟩ : ByteArray).data.toList)) = false := h3
            rw [Bool.not_eq_false', beq_iff_eq] at h3
            have : u.data.size = 0 := by rw [← Array.length_toList, h3]; rfl
            have : u.size = u.data.size := rfl
            omega
        obtain ⟨f', rfl⟩ : ∃ f', f = f' + 1 := ⟨f - 1, by omega⟩
        rw [tokGo, if_pos hz] at he
        conv => whnf
        refine And.intro ⟨⟨_, _, rfl, rfl, Nat.le_of_ble_eq_true rfl⟩, trivial⟩ ?_
        conv => whnf
        refine And.intro rfl ?_
        conv => whnf
        refine And.intro (List.length_map ..).symm ?_
        refine And.intro rfl ?_
        refine And.intro (by show ((acc.map rowK).length + 1) * 32 ≤ 140737488355328; simp; omega) ?_
        conv => whnf
        refine ⟨⟨[], ?_⟩⟩
        conv => whnf
        refine And.intro (by simp) ?_
        refine And.intro (by show 0 + ((acc.map rowK).length + 1) ≤ _; simp) ?_
        conv => whnf
        rw [he]
        show AOut.ret (.tup [.d (.sl false 3 (List.take ((acc.map rowK).length + 1) (List.drop 0 (acc.map rowK ++ [rowK noTok])))), .i64 0]) [] = AOut.ret (.tup [.d (.sl false 3 ((acc ++ [noTok]).map rowK)), .i64 0]) []
        rw [List.drop_zero, List.take_of_length_le (by simp), List.map_append]; rfl
end Go.Ax
