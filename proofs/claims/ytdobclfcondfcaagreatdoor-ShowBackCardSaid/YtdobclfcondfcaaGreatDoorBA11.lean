/- What the card of this claim stands on, or the card itself: for every input, as the given row says. -/
import Derived.Shelf.Unicode.DecodeLastEight
import Derived.Lib.RuneCount
import Derived.Lib.Join
import Derived.Lib.ItoaNum
import Derived.Test.YtdobclfcondfcaaGreatDoorBA06
import Derived.Test.YtdobclfcondfcaaGreatDoorBA08
import Derived.Test.YtdobclfcondfcaaGreatDoorBA10

namespace Go.Ax
open Go.Proofs Go.Lib
set_option maxRecDepth 10000
def classF (c : Int) : Int :=
  if c = 32 ∨ c = 9 ∨ c = 10 ∨ c = 13 then 0 else if c = 35 then 1 else if c = 95 then 4 else
  if c = 40 ∨ c = 41 ∨ c = 59 ∨ c = 43 ∨ c = 33 ∨ c = 61 ∨ c = 64 ∨ c = 46 ∨ c = 38 ∨ c = 58 ∨ c = 45 then 5 else
  if 48 ≤ c ∧ c ≤ 57 then 3 else if isLetterU c then 2 else 6
theorem class_ctr (g : GP) (hg : ∀ w, g.G w → LibG w) (c : Int) (hlo : -2147483648 ≤ c) (hhi : c ≤ 2147483647) : Ctr (ax g).E 111 [.d (.v (.int .i32 c))] [] (fun o => o = .ret (.i64 (classF c)) []) := by
  by_cases hs : c = 32 ∨ c = 9 ∨ c = 10 ∨ c = 13 ∨ c = 35 ∨ c = 95 ∨ c = 40 ∨ c = 41 ∨ c = 59 ∨ c = 43 ∨ c = 33 ∨ c = 61 ∨ c = 64 ∨ c = 46 ∨ c = 38 ∨ c = 58 ∨ c = 45
  · rcases hs with rfl | rfl | rfl | rfl | rfl | rfl | rfl | rfl | rfl | rfl | rfl | rfl | rfl | rfl | rfl | rfl | rfl <;>
    · refine Ctr.body (X := ax g) _ 35 [] [.tmp 2] Tryz.func111 rfl rfl rfl rfl (by decide +kernel) rfl rfl ?_
      conv => whnf
      refine ⟨⟨[], ?_⟩⟩
      conv => whnf
      rfl
  · simp only [not_or] at hs
    obtain ⟨h1, h2, h3, h4, h5, h6, h7, h8, h9, h10, h11, h12, h13, h14, h15, h16, h17⟩ := hs
    have hc : classF c = if 48 ≤ c ∧ c ≤ 57 then 3 else if isLetterU c then 2 else 6 := by simp [classF, *]
    refine Ctr.body (X := ax g) _ 35 [] [.tmp 2] Tryz.func111 rfl rfl rfl rfl (by decide +kernel) rfl rfl ?_
    conv => whnf
    repeat (refine ifB_intro (fun h => absurd (of_decide_eq_true h) (by assumption)) (fun _ => ?_); conv => whnf)
    refine ifB_intro (fun h => ?_) (fun h => ?_)
    · rw [h]
      have h : 48 ≤ c := of_decide_eq_true h
      conv => whnf
      refine ifB_intro (fun h' => ?_) (fun h' => ?_)
      · have h' : c ≤ 57 := of_decide_eq_true h'
        conv => whnf
        refine ⟨⟨[], ?_⟩⟩
        conv => whnf
        rw [hc, if_pos ⟨h, h'⟩]
      · have h' : ¬ c ≤ 57 := of_decide_eq_false h'
        conv => whnf
        refine CallP.det (isLetter_ctr g hg c hlo hhi) ?_
        conv => whnf
        rw [if_neg (fun hh => h' hh.2)] at hc
        refine ifB_intro (fun h2 => ?_) (fun h2 => ?_)
        · conv => whnf
          refine ⟨⟨[], ?_⟩⟩
          conv => whnf
          rw [hc, h2]; rfl
        · conv => whnf
          refine ⟨⟨[], ?_⟩⟩
          conv => whnf
          rw [hc, h2]; rfl
    · rw [h]
      have h : ¬ 48 ≤ c := of_decide_eq_false h
      conv => whnf
      refine CallP.det (isLetter_ctr g hg c hlo hhi) ?_
      conv => whnf
      rw [if_neg (fun hh => h hh.1)] at hc
      refine ifB_intro (fun h2 => ?_) (fun h2 => ?_)
      · conv => whnf
        refine ⟨⟨[], ?_⟩⟩
        conv => whnf
        rw [hc, h2]; rfl
      · conv => whnf
        refine ⟨⟨[], ?_⟩⟩
        conv => whnf
        rw [hc, h2]; rfl
def withinF (c : Int) : Bool := classF c == 2 || (classF c == 3 || classF c == 4)
theorem within_ctr (g : GP) (hg : ∀ w, g.G w → LibG w) (c : Int) (hlo : -2147483648 ≤ c) (hhi : c ≤ 2147483647) : Ctr (ax g).E 158 [.d (.v (.int .i32 c))] [] (fun o => o = .ret (.bool (withinF c)) []) := by
  refine Ctr.body (X := ax g) _ 16 [] [.tmp 2] Tryz.func158 rfl rfl rfl rfl (by decide +kernel) rfl rfl ?_
  conv => whnf
  refine CallP.det (class_ctr g hg c hlo hhi) ?_
  conv => whnf
  refine ifB_intro (fun h => ?_) (fun h => ?_)
  · rw [h]
    conv => whnf
    refine ⟨⟨[], ?_⟩⟩
    conv => whnf
    have h : (classF c == 2) = true := h
    rw [withinF, h]; rfl
  · rw [h]
    conv => whnf
    have h : (classF c == 2) = false := h
    refine ifB_intro (fun h2 => ?_) (fun h2 => ?_)
    · rw [h2]
      conv => whnf
      have h2 : (classF c == 3) = true := h2
      refine ⟨⟨[], ?_⟩⟩
      conv => whnf
      rw [withinF, h, h2]; rfl
    · rw [h2]
      conv => whnf
      have h2 : (classF c == 3) = false := h2
      refine ⟨⟨[], ?_⟩⟩
      conv => whnf
      rw [withinF, h, h2]; rfl
theorem runeW_pos (s : ByteArray) (pos : Nat) (h : pos < s.size) : 1 ≤ runeW s pos := by
  by_cases ha : (s[pos]'h).toNat < 128
  · have := decode_ascii s pos h ha
    simp [runeW, this]
  · exact (decode_high s pos h (by omega)).2
theorem runeAt_le (s : ByteArray) (pos : Nat) : runeAt s pos ≤ 2147483647 := decode_le s pos
def runF (p : Int → Bool) (s : ByteArray) : Nat → Nat → Nat
  | 0, _ => s.size
  | fuel + 1, pos => if pos < s.size then (if p (runeAt s pos) then runF p s fuel (pos + runeW s pos) else pos) else s.size
theorem run_ctr (g : GP) (s : ByteArray) (fn : Nat) (p : Int → Bool) (hp : ∀ c : Nat, c ≤ 2147483647 → Ctr (ax g).E fn [.d (.v (.int .i32 c))] [] (fun o => o = .ret (.bool (p c)) [])) : Ctr (ax g).E 112 [.str s, .clo (.func fn) [] []] [] (fun o => o = .ret (.i64 (runF p s s.size 0)) []) := by
  refine Ctr.body (X := ax g) _ 20 [] [.tmp 4] Tryz.func112 rfl rfl rfl rfl (by decide +kernel) rfl rfl ?_
  conv => whnf
  refine LoopP.inv (X := ax g) (fun pos : Nat => { f := [(0, .str s), (1, .clo (.func fn) [] []), (8, .ptr 8 0)], h := [(8, some (.siter s pos))] }) (fun pos => ∃ fuel, s.size ≤ pos + fuel ∧ runF p s s.size 0 = runF p s fuel pos) (fun pos => s.size - pos) 0 ⟨s.size, by omega, rfl⟩ ⟨⟨rfl, rfl, rfl, trivial⟩, ⟨fun o h => h, trivial⟩⟩ fun pos ⟨fuel, hf, he⟩ => ?_
  conv => whnf
  refine ifB_intro (fun h => ?_) (fun h => ?_)
  · have hlt : pos < s.size := by simpa using h
    conv => whnf
    have hw := runeW_pos s pos hlt
    refine CallP.det (hp (runeAt s pos) (runeAt_le s pos)) ?_
    conv => whnf
    cases fuel with
    | zero => omega
    | succ fuel =>
      simp only [runF, if_pos hlt] at he
      refine ifB_intro (fun h2 => ?_) (fun h2 => ?_)
      · have h2 : (!p (runeAt s pos)) = true := h2
        rw [Bool.not_eq_true'] at h2
        conv => whnf
        refine ⟨⟨[], ?_⟩⟩
        conv => whnf
        rw [he, h2]; rfl
      · have h2 : (!p (runeAt s pos)) = false := h2
        rw [Bool.not_eq_false'] at h2
        conv => whnf
        rw [h2, if_pos rfl] at he
        exact ⟨pos + runeW s pos, ⟨fuel, by omega, he⟩, by omega, ⟨⟨rfl, rfl, rfl, trivial⟩, ⟨fun o h => h, trivial⟩⟩⟩
  · have hge : s.size ≤ pos := by simpa using h
    conv => whnf
    refine ⟨⟨[], ?_⟩⟩
    conv => whnf
    have : runF p s fuel pos = s.size := by cases fuel <;> simp [runF]; omega
    rw [he, this]
structure TokT where
  kind : Int
  s : ByteArray
  n : Int
def rowK (t : TokT) : List D := [.i64 t.kind, .v (.string t.s), .u16 t.n]
def noTok : TokT := ⟨0, ⟨#[]⟩, 0⟩
structure PieceT where
  t : TokT
  n : Int
  e : Int
def PieceT.av (p : PieceT) : AV := .tup [.dagg (rowK p.t), .i64 p.n, .i64 p.e]
def isDigit (c : Int) : Bool := classF c == 3
theorem digit_ctr (g : GP) (hg : ∀ w, g.G w → LibG w) (c : Int) (hlo : -2147483648 ≤ c) (hhi : c ≤ 2147483647) : Ctr (ax g).E 160 [.d (.v (.int .i32 c))] [] (fun o => o = .ret (.bool (isDigit c)) []) := by
  refine Ctr.body (X := ax g) _ 6 [] [.tmp 2] Tryz.func160 rfl rfl rfl rfl (by decide +kernel) rfl rfl ?_
  conv => whnf
  refine CallP.det (class_ctr g hg c hlo hhi) ?_
  conv => whnf
  refine ⟨⟨[], ?_⟩⟩
  conv => whnf
  rfl
theorem notEol_ctr (g : GP) (c : Int) : Ctr (ax g).E 113 [.d (.v (.int .i32 c))] [] (fun o => o = .ret (.bool (c != 10)) []) := by
  refine Ctr.body (X := ax g) _ 5 [] [.tmp 2] Tryz.func113 rfl rfl rfl rfl (by decide +kernel) rfl rfl ?_
  conv => whnf
  refine ⟨⟨[], ?_⟩⟩
  conv => whnf
theorem runF_le (p : Int → Bool) (s : ByteArray) : ∀ (fuel pos : Nat), pos ≤ s.size → runF p s fuel pos ≤ s.size
  | 0, pos, _ => Nat.le_refl _
  | fuel + 1, pos, h => by
    simp only [runF]
    split
    · split
      · by_cases hw : pos + runeW s pos ≤ s.size
        · exact runF_le p s fuel _ hw
        · cases fuel with
          | zero => exact Nat.le_refl _
          | succ f => simp only [runF]; rw [if_neg (by omega)]; exact Nat.le_refl _
      · exact h
    · exact Nat.le_refl _
def markN (s : ByteArray) : Int := if Lib.hasPrefix s.data.toList [58, 61] || Lib.hasPrefix s.data.toList [61, 62] then 2 else 1
def markF (s : ByteArray) : PieceT := ⟨⟨3, s.extract 0 (markN s).toNat, 0⟩, markN s, 0⟩
theorem mark_ctr (g : GP) (s : ByteArray) (h1 : 0 < s.size) : Ctr (ax g).E 116 [.str s] [] (fun o => o = .ret (markF s).av []) := by
  have hpre : ∀ a b : UInt8, Lib.hasPrefix s.data.toList [a, b] = true → 2 ≤ s.size := fun a b h => by
    have : [a, b].length ≤ s.data.toList.length := (List.isPrefixOf_iff_prefix.1 h).length_le
    simpa using this
  refine Ctr.body (X := ax g) _ 17 [] [.cell 2 173, .tmp 3, .tmp 4] Tryz.func116 rfl rfl rfl rfl (by decide +kernel) rfl rfl ?_
  conv => whnf
  refine CallP.det (hasPrefix_ctr g s ⟨#[58, 61]⟩) ?_
  conv => whnf
  refine ifB_intro (fun h => ?_) (fun h => ?_)
  · rw [h]
    have h : Lib.hasPrefix s.data.toList [58, 61] = true := h
    have hm : markN s = 2 := by simp [markN, h]
    have := hpre _ _ h
    conv => whnf
    refine And.intro (Int.le_refl 0) ?_
    refine And.intro (show (0 : Int) ≤ 2 by decide) ?_
    refine And.intro (show (2 : Int) ≤ s.size by omega) ?_
    conv => whnf
    refine And.intro ⟨⟨_, _, rfl, rfl, Nat.le_of_ble_eq_true rfl⟩, ⟨_, _, rfl, rfl, Nat.le_of_ble_eq_true rfl⟩, trivial⟩ ?_
    conv => whnf
    refine And.intro rfl ?_
    conv => whnf
    refine ⟨⟨[], ?_⟩⟩
    conv => whnf
    repeat (refine And.intro (by first | exact rfl | decide | exact Nat.le_of_ble_eq_true rfl | exact ⟨_, rfl⟩ | exact ⟨_, _, rfl⟩) ?_; conv => whnf)
    rw [PieceT.av, markF, hm]; rfl
  · rw [h]
    have h : Lib.hasPrefix s.data.toList [58, 61] = false := h
    conv => whnf
    refine CallP.det (hasPrefix_ctr g s ⟨#[61, 62]⟩) ?_
    conv => whnf
    refine ifB_intro (fun h2 => ?_) (fun h2 => ?_)
    · have h2 : Lib.hasPrefix s.data.toList [61, 62] = true := h2
      have hm : markN s = 2 := by simp [markN, h2]
      have := hpre _ _ h2
      conv => whnf
      refine And.intro (Int.le_refl 0) ?_
      refine And.intro (show (0 : Int) ≤ 2 by decide) ?_
      refine And.intro (show (2 : Int) ≤ s.size by omega) ?_
      conv => whnf
      refine And.intro ⟨⟨_, _, rfl, rfl, Nat.le_of_ble_eq_true rfl⟩, ⟨_, _, rfl, rfl, Nat.le_of_ble_eq_true rfl⟩, trivial⟩ ?_
      conv => whnf
      refine And.intro rfl ?_
      conv => whnf
      refine ⟨⟨[], ?_⟩⟩
      conv => whnf
      repeat (refine And.intro (by first | exact rfl | decide | exact Nat.le_of_ble_eq_true rfl | exact ⟨_, rfl⟩ | exact ⟨_, _, rfl⟩) ?_; conv => whnf)
      rw [PieceT.av, markF, hm]; rfl
    · have h2 : Lib.hasPrefix s.data.toList [61, 62] = false := h2
      have hm : markN s = 1 := by simp [markN, h, h2]
      conv => whnf
      refine And.intro (Int.le_refl 0) ?_
      refine And.intro (show (0 : Int) ≤ 1 by decide) ?_
      refine And.intro (show (1 : Int) ≤ s.size by omega) ?_
      conv => whnf
      refine And.intro ⟨⟨_, _, rfl, rfl, Nat.le_of_ble_eq_true rfl⟩, ⟨_, _, rfl, rfl, Nat.le_of_ble_eq_true rfl⟩, trivial⟩ ?_
      conv => whnf
      refine And.intro rfl ?_
      conv => whnf
      refine ⟨⟨[], ?_⟩⟩
      conv => whnf
      repeat (refine And.intro (by first | exact rfl | decide | exact Nat.le_of_ble_eq_true rfl | exact ⟨_, rfl⟩ | exact ⟨_, _, rfl⟩) ?_; conv => whnf)
      rw [PieceT.av, markF, hm]; rfl
def errP (e : Int) : PieceT := ⟨noTok, 0, e⟩
def wordF (s : ByteArray) : PieceT :=
  if 20 < Lib.runeCount (s.extract 0 (runF withinF s s.size 0)) then errP 2 else ⟨⟨1, s.extract 0 (runF withinF s s.size 0), 0⟩, runF withinF s s.size 0, 0⟩
theorem word_ctr (g : GP) (hg : ∀ w, g.G w → LibG w) (s : ByteArray) (hs : s.size < 2 ^ 62) : Ctr (ax g).E 114 [.str s] [] (fun o => o = .ret (wordF s).av []) := by
  have hle := runF_le withinF s s.size 0 (Nat.zero_le _)
  refine Ctr.body (X := ax g) _ 19 [] [.cell 2 173, .tmp 3, .tmp 4] Tryz.func114 rfl rfl rfl rfl (by decide +kernel) rfl rfl ?_
  conv => whnf
  refine CallP.det (run_ctr g s 158 withinF (fun c hc => within_ctr g hg c (by omega) (by omega))) ?_
  conv => whnf
  generalize hn : runF withinF s s.size 0 = n at hle
  refine And.intro (Int.le_refl 0) ?_
  refine And.intro (show (0 : Int) ≤ (n : Int) by omega) ?_
  refine And.intro (show (n : Int) ≤ s.size by omega) ?_
  conv => whnf
  refine CallP.det (runeCount_ctr g (s.extract 0 n) (by simp; omega)) ?_
  conv => whnf
  refine ifB_intro (fun h => ?_) (fun h => ?_)
  · have h : 20 < Lib.runeCount (s.extract 0 n) := Int.ofNat_lt.1 (of_decide_eq_true h)
    conv => whnf
    refine And.intro trivial ?_
    conv => whnf
    refine And.intro rfl ?_
    conv => whnf
    refine ⟨⟨[], ?_⟩⟩
    conv => whnf
    repeat (refine And.intro (by first | exact rfl | decide | exact Nat.le_of_ble_eq_true rfl | exact ⟨_, rfl⟩ | exact ⟨_, _, rfl⟩) ?_; conv => whnf)
    rw [wordF, hn, if_pos h]; rfl
  · have h : ¬ 20 < Lib.runeCount (s.extract 0 n) := fun hh => of_decide_eq_false h (show (20 : Int) < (Lib.runeCount (s.extract 0 n) : Int) by omega)
    conv => whnf
    refine And.intro (Int.le_refl 0) ?_
    refine And.intro (show (0 : Int) ≤ (n : Int) by omega) ?_
    refine And.intro (show (n : Int) ≤ s.size by omega) ?_
    conv => whnf
    refine And.intro ⟨⟨_, _, rfl, rfl, Nat.le_of_ble_eq_true rfl⟩, ⟨_, _, rfl, rfl, Nat.le_of_ble_eq_true rfl⟩, trivial⟩ ?_
    conv => whnf
    refine And.intro rfl ?_
    conv => whnf
    refine ⟨⟨[], ?_⟩⟩
    conv => whnf
    repeat (refine And.intro (by first | exact rfl | decide | exact Nat.le_of_ble_eq_true rfl | exact ⟨_, rfl⟩ | exact ⟨_, _, rfl⟩) ?_; conv => whnf)
    rw [wordF, hn, if_neg h]; rfl
theorem isDigit_iff {c : Int} (h : isDigit c = true) : 48 ≤ c ∧ c ≤ 57 := by
  have h : classF c = 3 := by simpa [isDigit] using h
  unfold classF at h
  split at h
  · omega
  split at h
  · omega
  split at h
  · omega
  split at h
  · omega
  split at h
  · assumption
  split at h <;> omega
theorem rune_ascii {s : ByteArray} {pos : Nat} (h : pos < s.size) (ha : (s[pos]'h).toNat < 128) : runeAt s pos = (s[pos]'h).toNat ∧ runeW s pos = 1 := by
  have := decode_ascii s pos h ha
  simp [runeAt, runeW, this]
def DigAll (s : ByteArray) (a b : Nat) : Prop := ∀ j, a ≤ j → j < b → ∃ h : j < s.size, 48 ≤ (s[j]'h).toNat ∧ (s[j]'h).toNat ≤ 57
theorem runF_digit (s : ByteArray) : ∀ (fuel pos : Nat), s.size ≤ pos + fuel → pos ≤ s.size → pos ≤ runF isDigit s fuel pos ∧ DigAll s pos (runF isDigit s fuel pos)
  | 0, pos, h1, h2 => ⟨by simp only [runF]; exact h2, fun j h3 h4 => by simp only [runF] at h4; omega⟩
  | fuel + 1, pos, h1, h2 => by
    simp only [runF]
    by_cases hlt : pos < s.size
    · rw [if_pos hlt]
      by_cases hd : isDigit (runeAt s pos) = true
      · rw [if_pos hd]
        obtain ⟨g1, g2⟩ := isDigit_iff hd
        have ha : (s[pos]'hlt).toNat < 128 := by
          rcases Nat.lt_or_ge (s[pos]'hlt).toNat 128 with h | h
          · exact h
          · have := (decode_high s pos hlt h).1
            have e : runeAt s pos = (Utf8.decode s pos).1 := rfl
            omega
        obtain ⟨r1, r2⟩ := rune_ascii hlt ha
        rw [r2]
        obtain ⟨i1, i2⟩ := runF_digit s fuel (pos + 1) (by omega) (by omega)
        refine ⟨by omega, fun j h3 h4 => ?_⟩
        by_cases hj : j = pos
        · subst hj; exact ⟨hlt, by omega, by omega⟩
        · exact i2 j (by omega) h4
      · rw [if_neg hd]
        exact ⟨Nat.le_refl _, fun j h3 h4 => by omega⟩
    · rw [if_neg hlt]
      exact ⟨h2, fun j h3 h4 => by omega⟩
def numGo (d : ByteArray) : Nat → Nat → Int → Option Int
  | 0, _, v => some v
  | f + 1, pos, v => if 65535 < 10 * v + (byteAt d pos - 48) then none else numGo d f (pos + 1) (10 * v + (byteAt d pos - 48))
def numberF (s : ByteArray) : PieceT :=
  if (runF isDigit s s.size 0 < s.size) ∧ withinF (Lib.decodeGo (s.extract (runF isDigit s s.size 0) s.size)).1 = true then errP 10 else
  match numGo (s.extract 0 (runF isDigit s s.size 0)) (runF isDigit s s.size 0) 0 0 with
  | none => errP 2
  | some v => ⟨⟨2, ⟨#[]⟩, v⟩, runF isDigit s s.size 0, 0⟩
theorem i32_wrap {n : Int} (h0 : -2147483648 ≤ n) (h1 : n < 2147483648) : IntKind.i32.wrap n = n := by rw [IntKind.wrap_i32]; omega
theorem u16_wrap {n : Int} (h0 : 0 ≤ n) (h1 : n < 65536) : IntKind.u16.wrap n = n := by rw [IntKind.wrap_u16]; omega
theorem number_ctr (g : GP) (hg : ∀ w, g.G w → LibG w) (s : ByteArray) (hs : s.size < 2 ^ 62) : Ctr (ax g).E 115 [.str s] [] (fun o => o = .ret (numberF s).av []) := by
  have hle := runF_le isDigit s s.size 0 (Nat.zero_le _)
  have hdig := (runF_digit s s.size 0 (by omega) (Nat.zero_le _)).2
  refine Ctr.body (X := ax g) _ 49 [] [.cell 2 173, .tmp 3, .tmp 4] Tryz.func115 rfl rfl rfl rfl (by decide +kernel) rfl rfl ?_
  conv => whnf
  refine CallP.det (run_ctr g s 160 isDigit (fun c hc => digit_ctr g hg c (by omega) (by omega))) ?_
  conv => whnf
  have hF : numberF s = numberF s := rfl
  conv at hF => rhs; unfold numberF
  generalize hn : runF isDigit s s.size 0 = n at hle hdig hF
  refine And.intro (show (0 : Int) ≤ (n : Int) by omega) ?_
  refine And.intro (show (n : Int) ≤ s.size by omega) ?_
  refine And.intro (Int.le_refl _) ?_
  conv => whnf
  refine CallP.det (decode_ctr g hg (s.extract n s.size)) ?_
  conv => whnf
  have hr : ((Lib.decodeGo (s.extract n s.size)).1 : Int) ≤ 2147483647 := by
    have : (Lib.decodeGo (s.extract n s.size)).1 ≤ 2147483647 := by
      unfold Lib.decodeGo
      split
      · decide
      · exact decode_le _ 0
    omega
  -- the digits' loop and what follows
  have hby : ∀ j, j < n → ∃ h : j < (s.extract 0 n).size, 48 ≤ ((s.extract 0 n)[j]'h).toNat ∧ ((s.extract 0 n)[j]'h).toNat ≤ 57 := fun j hj => by
    obtain ⟨h1, h2, h3⟩ := hdig j (Nat.zero_le _) hj
    have hsz : j < (s.extract 0 n).size := by simp; omega
    refine ⟨hsz, ?_⟩
    have : (s.extract 0 n)[j]'hsz = s[j]'h1 := by simp [ByteArray.getElem_extract]
    rw [this]; exact ⟨h2, h3⟩
  have hdz : (s.extract 0 n).size = n := by simp; omega
  refine ifB_intro (fun h => ?_) (fun h => ?_)
  · rw [h]
    have h : n < s.size := Int.ofNat_lt.1 (of_decide_eq_true h)
    conv => whnf
    refine CallP.det (within_ctr g hg _ (by omega) hr) ?_
    conv => whnf
    refine ifB_intro (fun h2 => ?_) (fun h2 => ?_)
    · have h2 : withinF (Lib.decodeGo (s.extract n s.size)).1 = true := h2
      rw [if_pos ⟨h, h2⟩] at hF
      conv => whnf
      refine And.intro trivial ?_
      conv => whnf
      refine And.intro rfl ?_
      conv => whnf
      refine ⟨⟨[], ?_⟩⟩
      conv => whnf
      repeat (refine And.intro (by first | exact rfl | decide | exact Nat.le_of_ble_eq_true rfl | exact ⟨_, rfl⟩ | exact ⟨_, _, rfl⟩) ?_; conv => whnf)
      rw [hF]; rfl
    · have h2 : withinF (Lib.decodeGo (s.extract n s.size)).1 = false := h2
      rw [if_neg (fun hh => by rw [h2] at hh; simp at hh)] at hF
      conv => whnf
      refine And.intro (Int.le_refl 0) ?_
      refine And.intro (show (0 : Int) ≤ (n : Int) by omega) ?_
      refine And.intro (show (n : Int) ≤ s.size by omega) ?_
      conv => whnf
      refine LoopP.inv (X := ax g) (fun x : Nat × Int => { f := [(0, .str s), (2, .ptr 2 0), (3, .i64 0), (4, .i64 0), (5, .i64 n), (8, .i64 x.2), (32, .ptr 32 0)], h := [(32, some (.siter (s.extract 0 n) x.1)), (2, some (.dvar 3 (rowK noTok)))] }) (fun x => x.1 ≤ n ∧ 0 ≤ x.2 ∧ x.2 ≤ 65535 ∧ numGo (s.extract 0 n) n 0 0 = numGo (s.extract 0 n) (n - x.1) x.1 x.2) (fun x => n - x.1) (0, 0) ⟨Nat.zero_le _, by simp, by simp, rfl⟩ ⟨⟨rfl, rfl, rfl, rfl, rfl, rfl, rfl, trivial⟩, ⟨fun o h => h, fun o h => h, trivial⟩⟩ fun ⟨pos, v⟩ ⟨hp, hv0, hv1, he⟩ => ?_
      have hp : pos ≤ n := hp
      have hv0 : 0 ≤ v := hv0
      have hv1 : v ≤ 65535 := hv1
      have he : numGo (s.extract 0 n) n 0 0 = numGo (s.extract 0 n) (n - pos) pos v := he
      conv => whnf
      refine ifB_intro (fun h5 => ?_) (fun h5 => ?_)
      · have hlt : pos < n := by
          have h5 : pos < (s.extract 0 n).size := of_decide_eq_true h5
          omega
        obtain ⟨hz, hb1, hb2⟩ := hby pos hlt
        obtain ⟨ha1, ha2⟩ := rune_ascii hz (by omega)
        have hbt : byteAt (s.extract 0 n) pos = (((s.extract 0 n)[pos]'hz).toNat : Int) := by
          simp only [byteAt, Int.toNat_natCast]; rw [dif_pos hz]
        conv => whnf
        have hstep : IntKind.i64.wrap (IntKind.i64.wrap (10 * v) + IntKind.i64.wrap (IntKind.i32.wrap ((runeAt (s.extract 0 n) pos : Int) - 48))) = 10 * v + (byteAt (s.extract 0 n) pos - 48) := by
          rw [ha1, hbt, i32_wrap (by omega) (by omega), i64_wrap (n := 10 * v) (by omega) (by omega), i64_wrap (n := (((s.extract 0 n)[pos]'hz).toNat : Int) - 48) (by omega) (by omega), i64_wrap (by omega) (by omega)]
        have hnp : n - pos = (n - (pos + 1)) + 1 := by omega
        rw [hnp, numGo] at he
        refine ifB_intro (fun h6 => ?_) (fun h6 => ?_)
        · have h6 : 65535 < 10 * v + (byteAt (s.extract 0 n) pos - 48) := by
            have h6 := of_decide_eq_true h6
            rw [← hstep]; exact h6
          rw [if_pos h6] at he
          rw [he] at hF
          conv => whnf
          refine And.intro trivial ?_
          conv => whnf
          refine And.intro rfl ?_
          conv => whnf
          refine ⟨⟨[], ?_⟩⟩
          conv => whnf
          repeat (refine And.intro (by first | exact rfl | decide | exact Nat.le_of_ble_eq_true rfl | exact ⟨_, rfl⟩ | exact ⟨_, _, rfl⟩) ?_; conv => whnf)
          rw [hF]; rfl
        · have h6 : ¬ 65535 < 10 * v + (byteAt (s.extract 0 n) pos - 48) := by
            have h6 := of_decide_eq_false h6
            rw [← hstep]; exact h6
          rw [if_neg h6] at he
          conv => whnf
          exact ⟨(pos + 1, 10 * v + (byteAt (s.extract 0 n) pos - 48)), ⟨hlt, by show 0 ≤ 10 * v + (byteAt (s.extract 0 n) pos - 48); rw [hbt]; omega, by show 10 * v + (byteAt (s.extract 0 n) pos - 48) ≤ 65535; omega, he⟩, by show n - (pos + 1) < n - pos; omega, ⟨⟨rfl, rfl, rfl, rfl, rfl, AV.int_eq hstep, rfl, trivial⟩, ⟨fun o h => by show some (AObj.siter (s.extract 0 n) (pos + runeW (s.extract 0 n) pos)) = some o; rw [ha2]; exact h, fun o h => h, trivial⟩⟩⟩
      · have hpn : pos = n := by
          have h5 : ¬ pos < (s.extract 0 n).size := of_decide_eq_false h5
          omega
        subst hpn
        rw [Nat.sub_self, numGo] at he
        rw [he] at hF
        conv => whnf
        refine And.intro ⟨⟨_, _, rfl, rfl, Nat.le_of_ble_eq_true rfl⟩, ⟨_, _, rfl, rfl, Nat.le_of_ble_eq_true rfl⟩, trivial⟩ ?_
        conv => whnf
        refine And.intro rfl ?_
        conv => whnf
        refine ⟨⟨[], ?_⟩⟩
        conv => whnf
        repeat (refine And.intro (by first | exact rfl | decide | exact Nat.le_of_ble_eq_true rfl | exact ⟨_, rfl⟩ | exact ⟨_, _, rfl⟩) ?_; conv => whnf)
        rw [hF]
        show AOut.ret (.tup [.dagg [.i64 2, .v (.string ⟨#[]⟩), .u16 (IntKind.u16.wrap v)], _, _]) [] = _
        rw [u16_wrap hv0 (by omega)]; rfl
  · rw [h]
    have h : ¬ n < s.size := fun hh => of_decide_eq_false h (Int.ofNat_lt.2 hh)
    rw [if_neg (fun hh => h hh.1)] at hF
    · conv => whnf
      refine And.intro (Int.le_refl 0) ?_
      refine And.intro (show (0 : Int) ≤ (n : Int) by omega) ?_
      refine And.intro (show (n : Int) ≤ s.size by omega) ?_
      conv => whnf
      refine LoopP.inv (X := ax g) (fun x : Nat × Int => { f := [(0, .str s), (2, .ptr 2 0), (3, .i64 0), (4, .i64 0), (5, .i64 n), (8, .i64 x.2), (32, .ptr 32 0)], h := [(32, some (.siter (s.extract 0 n) x.1)), (2, some (.dvar 3 (rowK noTok)))] }) (fun x => x.1 ≤ n ∧ 0 ≤ x.2 ∧ x.2 ≤ 65535 ∧ numGo (s.extract 0 n) n 0 0 = numGo (s.extract 0 n) (n - x.1) x.1 x.2) (fun x => n - x.1) (0, 0) ⟨Nat.zero_le _, by simp, by simp, rfl⟩ ⟨⟨rfl, rfl, rfl, rfl, rfl, rfl, rfl, trivial⟩, ⟨fun o h => h, fun o h => h, trivial⟩⟩ fun ⟨pos, v⟩ ⟨hp, hv0, hv1, he⟩ => ?_
      have hp : pos ≤ n := hp
      have hv0 : 0 ≤ v := hv0
      have hv1 : v ≤ 65535 := hv1
      have he : numGo (s.extract 0 n) n 0 0 = numGo (s.extract 0 n) (n - pos) pos v := he
      conv => whnf
      refine ifB_intro (fun h5 => ?_) (fun h5 => ?_)
      · have hlt : pos < n := by
          have h5 : pos < (s.extract 0 n).size := of_decide_eq_true h5
          omega
        obtain ⟨hz, hb1, hb2⟩ := hby pos hlt
        obtain ⟨ha1, ha2⟩ := rune_ascii hz (by omega)
        have hbt : byteAt (s.extract 0 n) pos = (((s.extract 0 n)[pos]'hz).toNat : Int) := by
          simp only [byteAt, Int.toNat_natCast]; rw [dif_pos hz]
        conv => whnf
        have hstep : IntKind.i64.wrap (IntKind.i64.wrap (10 * v) + IntKind.i64.wrap (IntKind.i32.wrap ((runeAt (s.extract 0 n) pos : Int) - 48))) = 10 * v + (byteAt (s.extract 0 n) pos - 48) := by
          rw [ha1, hbt, i32_wrap (by omega) (by omega), i64_wrap (n := 10 * v) (by omega) (by omega), i64_wrap (n := (((s.extract 0 n)[pos]'hz).toNat : Int) - 48) (by omega) (by omega), i64_wrap (by omega) (by omega)]
        have hnp : n - pos = (n - (pos + 1)) + 1 := by omega
        rw [hnp, numGo] at he
        refine ifB_intro (fun h6 => ?_) (fun h6 => ?_)
        · have h6 : 65535 < 10 * v + (byteAt (s.extract 0 n) pos - 48) := by
            have h6 := of_decide_eq_true h6
            rw [← hstep]; exact h6
          rw [if_pos h6] at he
          rw [he] at hF
          conv => whnf
          refine And.intro trivial ?_
          conv => whnf
          refine And.intro rfl ?_
          conv => whnf
          refine ⟨⟨[], ?_⟩⟩
          conv => whnf
          repeat (refine And.intro (by first | exact rfl | decide | exact Nat.le_of_ble_eq_true rfl | exact ⟨_, rfl⟩ | exact ⟨_, _, rfl⟩) ?_; conv => whnf)
          rw [hF]; rfl
        · have h6 : ¬ 65535 < 10 * v + (byteAt (s.extract 0 n) pos - 48) := by
            have h6 := of_decide_eq_false h6
            rw [← hstep]; exact h6
          rw [if_neg h6] at he
          conv => whnf
          exact ⟨(pos + 1, 10 * v + (byteAt (s.extract 0 n) pos - 48)), ⟨hlt, by show 0 ≤ 10 * v + (byteAt (s.extract 0 n) pos - 48); rw [hbt]; omega, by show 10 * v + (byteAt (s.extract 0 n) pos - 48) ≤ 65535; omega, he⟩, by show n - (pos + 1) < n - pos; omega, ⟨⟨rfl, rfl, rfl, rfl, rfl, AV.int_eq hstep, rfl, trivial⟩, ⟨fun o h => by show some (AObj.siter (s.extract 0 n) (pos + runeW (s.extract 0 n) pos)) = some o; rw [ha2]; exact h, fun o h => h, trivial⟩⟩⟩
      · have hpn : pos = n := by
          have h5 : ¬ pos < (s.extract 0 n).size := of_decide_eq_false h5
          omega
        subst hpn
        rw [Nat.sub_self, numGo] at he
        rw [he] at hF
        conv => whnf
        refine And.intro ⟨⟨_, _, rfl, rfl, Nat.le_of_ble_eq_true rfl⟩, ⟨_, _, rfl, rfl, Nat.le_of_ble_eq_true rfl⟩, trivial⟩ ?_
        conv => whnf
        refine And.intro rfl ?_
        conv => whnf
        refine ⟨⟨[], ?_⟩⟩
        conv => whnf
        repeat (refine And.intro (by first | exact rfl | decide | exact Nat.le_of_ble_eq_true rfl | exact ⟨_, rfl⟩ | exact ⟨_, _, rfl⟩) ?_; conv => whnf)
        rw [hF]
        show AOut.ret (.tup [.dagg [.i64 2, .v (.string ⟨#[]⟩), .u16 (IntKind.u16.wrap v)], _, _]) [] = _
        rw [u16_wrap hv0 (by omega)]; rfl
end Go.Ax

namespace Go.Ax
open Go.Proofs Go.Lib
set_option maxRecDepth 10000
def stepF (s : ByteArray) : PieceT :=
  let k := classF (Lib.decodeGo s).1
  if k = 2 then wordF s else if k = 3 then numberF s else if k = 5 then markF s else errP 10
def tokGo : Nat → ByteArray → List TokT → Option (List TokT) × Int
  | 0, _, _ => (none, 0)
  | f + 1, s, acc => if s.size = 0 then (some (acc ++ [noTok]), 0) else
    if classF (Lib.decodeGo s).1 = 0 then tokGo f (s.extract (Lib.decodeGo s).2 s.size) acc else
    if classF (Lib.decodeGo s).1 = 1 then tokGo f (s.extract (runF (· != 10) s s.size 0) s.size) acc else
    if (stepF s).e ≠ 0 then (none, (stepF s).e) else tokGo f (s.extract (stepF s).n.toNat s.size) (acc ++ [(stepF s).t])
def tokensF (V : ByteArray → Bool) (s : ByteArray) : Option (List TokT) × Int :=
  if 4000 < s.size then (none, 2) else if V s = false then (none, 10) else tokGo (s.size + 1) s []
def tokAV : Option (List TokT) × Int → AV
  | (some l, e) => .tup [.d (.sl false 3 (l.map rowK)), .i64 e]
  | (none, e) => .tup [.d (.v (.slice none 0 0)), .i64 e]
theorem runF_ge (p : Int → Bool) (s : ByteArray) : ∀ (f pos : Nat), min pos s.size ≤ runF p s f pos
  | 0, pos => by simp only [runF]; omega
  | f + 1, pos => by
    simp only [runF]
    split
    · split
      · have := runF_ge p s f (pos + runeW s pos)
        omega
      · omega
    · omega
theorem runF_pos (p : Int → Bool) (s : ByteArray) (h : 0 < s.size) (hp : p (runeAt s 0) = true) : 1 ≤ runF p s s.size 0 := by
  obtain ⟨f, hf⟩ : ∃ f, s.size = f + 1 := ⟨s.size - 1, by omega⟩
  conv => rhs; arg 3; rw [hf]
  simp only [runF, if_pos h, hp, if_true, Nat.zero_add]
  have := runF_ge p s f (runeW s 0)
  have := runeW_pos s 0 h
  omega
theorem decodeGo_rune {s : ByteArray} (h : 0 < s.size) : (Lib.decodeGo s).1 = runeAt s 0 ∧ (Lib.decodeGo s).2 = runeW s 0 := by
  unfold Lib.decodeGo
  rw [if_neg (by omega)]; exact ⟨rfl, rfl⟩
theorem stepF_n {s : ByteArray} (h : 0 < s.size) (he : (stepF s).e = 0) : 1 ≤ (stepF s).n ∧ (stepF s).n ≤ s.size := by
  obtain ⟨r1, _⟩ := decodeGo_rune h
  unfold stepF at he ⊢
  simp only at he ⊢
  split at he
  · rename_i hc
    rw [if_pos hc]
    unfold wordF at he ⊢
    split at he
    · simp [errP] at he
    · rename_i hr
      rw [if_neg hr]
      have h1 := runF_pos withinF s h (by rw [← r1, withinF, hc]; rfl)
      have h2 := runF_le withinF s s.size 0 (Nat.zero_le _)
      simp only; omega
  · rename_i hc2
    split at he
    · rename_i hc
      rw [if_neg hc2, if_pos hc]
      unfold numberF at he ⊢
      split at he
      · simp [errP] at he
      · rename_i hr
        rw [if_neg hr]
        split at he
        · simp [errP] at he
        · rename_i v hv
          have h1 := runF_pos isDigit s h (by rw [← r1, isDigit, hc]; rfl)
          have h2 := runF_le isDigit s s.size 0 (Nat.zero_le _)
          simp only; omega
    · rename_i hc3
      split at he
      · rename_i hc
        rw [if_neg hc2, if_neg hc3, if_pos hc]
        simp only [markF, markN]
        split
        · rename_i hh
          have : ∀ a b : UInt8, Lib.hasPrefix s.data.toList [a, b] = true → 2 ≤ s.size := fun a b h => by
            have : [a, b].length ≤ s.data.toList.length := (List.isPrefixOf_iff_prefix.1 h).length_le
            simpa using this
          rw [Bool.or_eq_true] at hh
          have := hh.elim (this _ _) (this _ _)
          omega
        · omega
      · simp [errP] at he
set_option maxHeartbeats 1000000 in
theorem tokens_ctr (g : GP) (hg : ∀ w, g.G w → LibG w) (V : ByteArray → Bool) (hV : ∀ s : ByteArray, s.size ≤ 4000 → Ctr (ax g).E 109 [.str s] [] (fun o => o = .ret (.bool (V s)) [])) (s : ByteArray) (hs : s.size < 2 ^ 62) : Ctr (ax g).E 56 [.str s] [] (fun o => o = .ret (tokAV (tokensF V s)) []) := by
  refine Ctr.body (X := ax g) _ 76 [] [.tmp 2, .tmp 3] Tryz.func56 rfl rfl rfl rfl (by decide +kernel) rfl rfl ?_
  conv => whnf
  refine ifB_intro (fun h => ?_) (fun h => ?_)
  · have h : 4000 < s.size := Int.ofNat_lt.1 (of_decide_eq_true h)
    conv => whnf
    refine ⟨⟨[], ?_⟩⟩
    conv => whnf
    rw [tokensF, if_pos h]; rfl
  · have h : ¬ 4000 < s.size := fun hh => of_decide_eq_false h (Int.ofNat_lt.2 hh)
    conv => whnf
    refine CallP.det (hV s (by omega)) ?_
    conv => whnf
    refine ifB_intro (fun h2 => ?_) (fun h2 => ?_)
    · have h2 : (!V s) = true := h2
      rw [Bool.not_eq_true'] at h2
      conv => whnf
      refine ⟨⟨[], ?_⟩⟩
      conv => whnf
      rw [tokensF, if_neg h, if_pos h2]; rfl
    · have h2 : (!V s) = false := h2
      rw [Bool.not_eq_false'] at h2
      have hT : tokensF V s = tokGo (s.size + 1) s [] := by rw [tokensF, if_neg h, if_neg (by rw [h2]; simp)]
      conv => whnf
      refine LoopP.own 4 68 3 173 rfl rfl rfl ?_
      refine LoopP.inv (X := ax g) (fun x : ByteArray × List TokT => { f := [(0, .str x.1), (4, .msl 68 x.2.length 0 x.2.length)], h := [(68, some (.buf 3 173 (x.2.map rowK)))] }) (fun x => x.2.length + x.1.size ≤ 4000 ∧ ∃ f, x.1.size < f ∧ tokensF V s = tokGo f x.1 x.2) (fun x => x.1.size) (s, []) ⟨by simp; omega, s.size + 1, by simp, hT⟩ ⟨⟨rfl, rfl, trivial⟩, ⟨fun o h => h, trivial⟩⟩ fun ⟨u, acc⟩ ⟨hsz, f, hf, he⟩ => ?_
      have hsz : acc.length + u.size ≤ 4000 := hsz
      have he : tokensF V s = tokGo f u acc := he
      have hf : u.size < f := hf
      conv => whnf
      refine ifB_intro (fun h3 => ?_) (fun h3 => ?_)
      · have hne : 0 < u.size := by
          rcases Nat.eq_zero_or_pos u.size with hz | hz
          · exfalso
            have : u = ⟨#[]⟩ := by
              obtain ⟨a⟩ := u
              have : a = #[] := Array.eq_empty_of_size_eq_zero hz
              rw [this]
            subst this
            have h3 : (!((⟨#[]⟩ : ByteArray).data.toList == (⟨#[]⟩ : ByteArray).data.toList)) = true := h3
            simp at h3
          · exact hz
        obtain ⟨f', rfl⟩ : ∃ f', f = f' + 1 := ⟨f - 1, by omega⟩
        rw [tokGo, if_neg (by omega)] at he
        obtain ⟨r1, r2⟩ := decodeGo_rune hne
        have hw := runeW_pos u 0 hne
        have hwle := decodeGo_le_size u
        have hrl := runeAt_le u 0
        conv => whnf
        refine CallP.det (decode_ctr g hg u) ?_
        conv => whnf
        refine CallP.det (class_ctr g hg _ (by omega) (by omega)) ?_
        conv => whnf
        refine ifB_intro (fun h4 => ?_) (fun h4 => ?_)
        · have h4 : classF (Lib.decodeGo u).1 = 0 := by simpa using h4
          rw [if_pos h4] at he
          conv => whnf
          refine And.intro (show (0 : Int) ≤ ((Lib.decodeGo u).2 : Int) by omega) ?_
          refine And.intro (show ((Lib.decodeGo u).2 : Int) ≤ u.size by omega) ?_
          refine And.intro (Int.le_refl _) ?_
          conv => whnf
          exact ⟨(u.extract (Lib.decodeGo u).2 u.size, acc), ⟨by show acc.length + (u.extract (Lib.decodeGo u).2 u.size).size ≤ 4000; simp; omega, f', by show (u.extract (Lib.decodeGo u).2 u.size).size < f'; simp; omega, he⟩, by show (u.extract (Lib.decodeGo u).2 u.size).size < u.size; simp; omega, ⟨⟨rfl, rfl, trivial⟩, ⟨fun o h => h, trivial⟩⟩⟩
        · have h4 : ¬ classF (Lib.decodeGo u).1 = 0 := by simpa using h4
          rw [if_neg h4] at he
          conv => whnf
          refine ifB_intro (fun h5 => ?_) (fun h5 => ?_)
          · have h5 : classF (Lib.decodeGo u).1 = 1 := by simpa using h5
            rw [if_pos h5] at he
            conv => whnf
            refine CallP.det (run_ctr g u 113 (· != 10) (fun c _ => notEol_ctr g c)) ?_
            conv => whnf
            have hr1 : 1 ≤ runF (· != 10) u u.size 0 := runF_pos _ u hne (by
              have hc : classF (runeAt u 0) = 1 := by rw [← r1]; exact h5
              by_cases h10 : (runeAt u 0 : Int) = 10
              · rw [h10] at hc; exact absurd hc (by decide)
              · simpa using h10)
            have hr2 := runF_le (· != 10) u u.size 0 (Nat.zero_le _)
            generalize hN : runF (· != 10) u u.size 0 = N at hr1 hr2 he
            refine And.intro (show (0 : Int) ≤ (N : Int) by omega) ?_
            refine And.intro (show (N : Int) ≤ u.size by omega) ?_
            refine And.intro (Int.le_refl _) ?_
            conv => whnf
            exact ⟨(u.extract N u.size, acc), ⟨by show acc.length + (u.extract N u.size).size ≤ 4000; simp; omega, f', by show (u.extract N u.size).size < f'; simp; omega, he⟩, by show (u.extract N u.size).size < u.size; simp; omega, ⟨⟨rfl, rfl, trivial⟩, ⟨fun o h => h, trivial⟩⟩⟩
          · have h5 : ¬ classF (Lib.decodeGo u).1 = 1 := by simpa using h5
            rw [if_neg h5] at he
            conv => whnf
            refine ifB_intro (fun h6 => ?_) (fun h6 => ?_)
            · have h6 : classF (Lib.decodeGo u).1 = 2 := by simpa using h6
              conv => whnf
              refine CallP.det (word_ctr g hg u (by omega)) ?_
              conv => whnf
              refine And.intro rfl ?_
              conv => whnf
              have hst : stepF u = wordF u := by simp only [stepF, h6, if_true]
              rw [hst] at he
              refine ifB_intro (fun h7 => ?_) (fun h7 => ?_)
              · have h7 : (wordF u).e ≠ 0 := by simpa using h7
                rw [if_pos h7] at he
                conv => whnf
                refine ⟨⟨[], ?_⟩⟩
                conv => whnf
                rw [he]; rfl
              · have h7 : (wordF u).e = 0 := by simpa using h7
                rw [if_neg (by simp [h7])] at he
                have hnn := stepF_n hne (by rw [hst]; exact h7)
                rw [hst] at hnn
                conv => whnf
                refine DrawP.intro (X := ax g) B56_24 (by kernel_rfl) (by decide +kernel) ?_
                conv => whnf
                repeat (refine And.intro (by first | exact rfl | decide | exact Nat.le_of_ble_eq_true rfl | exact ⟨_, rfl⟩ | exact ⟨_, _, rfl⟩) ?_; conv => whnf)
                refine And.intro (List.length_map ..).symm ?_
                refine And.intro rfl ?_
                refine And.intro (by show ((acc.map rowK).length + 1) * 32 ≤ 140737488355328; simp; omega) ?_
                conv => whnf
                refine And.intro (show (0 : Int) ≤ (wordF u).n by omega) ?_
                refine And.intro (show (wordF u).n ≤ u.size by omega) ?_
                refine And.intro (Int.le_refl _) ?_
                conv => whnf
                exact ⟨(u.extract (wordF u).n.toNat u.size, acc ++ [(wordF u).t]), ⟨by show (acc ++ [(wordF u).t]).length + (u.extract (wordF u).n.toNat u.size).size ≤ 4000; simp; omega, f', by show (u.extract (wordF u).n.toNat u.size).size < f'; simp; omega, he⟩, by show (u.extract (wordF u).n.toNat u.size).size < u.size; simp; omega, ⟨⟨rfl, msl_eq (by simp), trivial⟩, ⟨fun o h => by rw [List.map_append] at h; exact h, trivial⟩⟩⟩
            · have h6 : ¬ classF (Lib.decodeGo u).1 = 2 := by simpa using h6
              conv => whnf
              refine ifB_intro (fun h8 => ?_) (fun h8 => ?_)
              · have h8 : classF (Lib.decodeGo u).1 = 3 := by simpa using h8
                conv => whnf
                refine CallP.det (number_ctr g hg u (by omega)) ?_
                conv => whnf
                refine And.intro rfl ?_
                conv => whnf
                have hst : stepF u = numberF u := by simp only [stepF]; rw [if_neg h6, if_pos h8]
                rw [hst] at he
                refine ifB_intro (fun h7 => ?_) (fun h7 => ?_)
                · have h7 : (numberF u).e ≠ 0 := by simpa using h7
                  rw [if_pos h7] at he
                  conv => whnf
                  refine ⟨⟨[], ?_⟩⟩
                  conv => whnf
                  rw [he]; rfl
                · have h7 : (numberF u).e = 0 := by simpa using h7
                  rw [if_neg (by simp [h7])] at he
                  have hnn := stepF_n hne (by rw [hst]; exact h7)
                  rw [hst] at hnn
                  conv => whnf
                  refine DrawP.intro (X := ax g) B56_24 (by kernel_rfl) (by decide +kernel) ?_
                  conv => whnf
                  repeat (refine And.intro (by first | exact rfl | decide | exact Nat.le_of_ble_eq_true rfl | exact ⟨_, rfl⟩ | exact ⟨_, _, rfl⟩) ?_; conv => whnf)
                  refine And.intro (List.length_map ..).symm ?_
                  refine And.intro rfl ?_
                  refine And.intro (by show ((acc.map rowK).length + 1) * 32 ≤ 140737488355328; simp; omega) ?_
                  conv => whnf
                  refine And.intro (show (0 : Int) ≤ (numberF u).n by omega) ?_
                  refine And.intro (show (numberF u).n ≤ u.size by omega) ?_
                  refine And.intro (Int.le_refl _) ?_
                  conv => whnf
                  exact ⟨(u.extract (numberF u).n.toNat u.size, acc ++ [(numberF u).t]), ⟨by show (acc ++ [(numberF u).t]).length + (u.extract (numberF u).n.toNat u.size).size ≤ 4000; simp; omega, f', by show (u.extract (numberF u).n.toNat u.size).size < f'; simp; omega, he⟩, by show (u.extract (numberF u).n.toNat u.size).size < u.size; simp; omega, ⟨⟨rfl, msl_eq (by simp), trivial⟩, ⟨fun o h => by rw [List.map_append] at h; exact h, trivial⟩⟩⟩
              · have h8 : ¬ classF (Lib.decodeGo u).1 = 3 := by simpa using h8
                conv => whnf
                refine ifB_intro (fun h9 => ?_) (fun h9 => ?_)
                · have h9 : classF (Lib.decodeGo u).1 = 5 := by simpa using h9
                  conv => whnf
                  refine CallP.det (mark_ctr g u hne) ?_
                  conv => whnf
                  refine And.intro rfl ?_
                  conv => whnf
                  have hst : stepF u = markF u := by simp only [stepF]; rw [if_neg h6, if_neg h8, if_pos h9]
                  rw [hst] at he
                  have h7 : (markF u).e = 0 := rfl
                  rw [if_neg (by simp [h7])] at he
                  have hnn := stepF_n hne (by rw [hst]; exact h7)
                  rw [hst] at hnn
                  refine DrawP.intro (X := ax g) B56_24 (by kernel_rfl) (by decide +kernel) ?_
                  conv => whnf
                  repeat (refine And.intro (by first | exact rfl | decide | exact Nat.le_of_ble_eq_true rfl | exact ⟨_, rfl⟩ | exact ⟨_, _, rfl⟩) ?_; conv => whnf)
                  refine And.intro (List.length_map ..).symm ?_
                  refine And.intro rfl ?_
                  refine And.intro (by show ((acc.map rowK).length + 1) * 32 ≤ 140737488355328; simp; omega) ?_
                  conv => whnf
                  refine And.intro (show (0 : Int) ≤ (markF u).n by omega) ?_
                  refine And.intro (show (markF u).n ≤ u.size by omega) ?_
                  refine And.intro (Int.le_refl _) ?_
                  conv => whnf
                  exact ⟨(u.extract (markF u).n.toNat u.size, acc ++ [(markF u).t]), ⟨by show (acc ++ [(markF u).t]).length + (u.extract (markF u).n.toNat u.size).size ≤ 4000; simp; omega, f', by show (u.extract (markF u).n.toNat u.size).size < f'; simp; omega, he⟩, by show (u.extract (markF u).n.toNat u.size).size < u.size; simp; omega, ⟨⟨rfl, msl_eq (by simp), trivial⟩, ⟨fun o h => by rw [List.map_append] at h; exact h, trivial⟩⟩⟩
                · have h9 : ¬ classF (Lib.decodeGo u).1 = 5 := by simpa using h9
                  have hst : stepF u = errP 10 := by simp only [stepF]; rw [if_neg h6, if_neg h8, if_neg h9]
                  rw [hst, if_pos (by decide)] at he
                  conv => whnf
                  refine ⟨⟨[], ?_⟩⟩
                  conv => whnf
                  rw [he]; rfl
      · have hz : u.size = 0 := by
          rcases Nat.eq_zero_or_pos u.size with hz | hz
          · exact hz
          · exfalso
            have h3 : (!(u.data.toList == (⟨#[]⟩ : ByteArray).data.toList)) = false := h3
            rw [Bool.not_eq_false', beq_iff_eq] at h3
            have : u.data.size = 0 := by rw [← Array.length_toList, h3]; rfl
            have : u.size = u.data.size := rfl
            omega
        obtain ⟨f', rfl⟩ : ∃ f', f = f' + 1 := ⟨f - 1, by omega⟩
        rw [tokGo, if_pos hz] at he
        conv => whnf
        refine And.intro ⟨⟨_, _, rfl, rfl, Nat.le_of_ble_eq_true rfl⟩, trivial⟩ ?_
        conv => whnf
        refine And.intro rfl ?_
        conv => whnf
        refine And.intro (List.length_map ..).symm ?_
        refine And.intro rfl ?_
        refine And.intro (by show ((acc.map rowK).length + 1) * 32 ≤ 140737488355328; simp; omega) ?_
        conv => whnf
        refine ⟨⟨[], ?_⟩⟩
        conv => whnf
        refine And.intro (by simp) ?_
        refine And.intro (by show 0 + ((acc.map rowK).length + 1) ≤ _; simp) ?_
        conv => whnf
        rw [he]
        show AOut.ret (.tup [.d (.sl false 3 (List.take ((acc.map rowK).length + 1) (List.drop 0 (acc.map rowK ++ [rowK noTok])))), .i64 0]) [] = AOut.ret (.tup [.d (.sl false 3 ((acc ++ [noTok]).map rowK)), .i64 0]) []
        rw [List.drop_zero, List.take_of_length_le (by simp), List.map_append]; rfl
end Go.Ax

namespace Go.Ax
open Go.Lib
set_option maxRecDepth 10000
def wB (c : Ch) : Bool := withinF c.1
def dB (c : Ch) : Bool := isDigit c.1
def nB (c : Ch) : Bool := (c.1 : Int) != 10
def numC : List Ch → Int → Option Int
  | [], v => some v
  | c :: r, v => if 65535 < 10 * v + ((c.1 : Int) - 48) then none else numC r (10 * v + ((c.1 : Int) - 48))
def sign2 : List Ch → Bool
  | a :: b :: _ => (a.1 == 58 && b.1 == 61) || (a.1 == 61 && b.1 == 62)
  | _ => false
def headW : List Ch → Bool
  | [] => false
  | c :: _ => wB c
def baOf (cs : List Ch) : ByteArray := ⟨(flat cs).toArray⟩
inductive StepR where
  | err (e : Int)
  | tok (t : TokT) (r : List Ch)
def stepC (cs : List Ch) : StepR :=
  match cs with
  | [] => .err 10
  | c :: _ =>
    if classF c.1 = 2 then (if 20 < (cs.takeWhile wB).length then .err 2 else .tok ⟨1, baOf (cs.takeWhile wB), 0⟩ (cs.dropWhile wB))
    else if classF c.1 = 3 then (if headW (cs.dropWhile dB) then .err 10 else match numC (cs.takeWhile dB) 0 with
      | none => .err 2
      | some v => .tok ⟨2, ⟨#[]⟩, v⟩ (cs.dropWhile dB))
    else if classF c.1 = 5 then (if sign2 cs then .tok ⟨3, baOf (cs.take 2), 0⟩ (cs.drop 2) else .tok ⟨3, baOf (cs.take 1), 0⟩ (cs.drop 1))
    else .err 10
def tokC : Nat → List Ch → List TokT → Option (List TokT) × Int
  | 0, _, _ => (none, 0)
  | _ + 1, [], acc => (some (acc ++ [noTok]), 0)
  | f + 1, c :: r, acc => if classF c.1 = 0 then tokC f r acc else if classF c.1 = 1 then tokC f ((c :: r).dropWhile nB) acc else
    match stepC (c :: r) with
    | .err e => (none, e)
    | .tok t r' => tokC f r' (acc ++ [t])
theorem runeAt_drop (s : ByteArray) (pos : Nat) : runeAt s pos = (decodeL (s.data.toList.drop pos)).1 ∧ runeW s pos = (decodeL (s.data.toList.drop pos)).2 := by
  rw [decodeL_drop]; exact ⟨rfl, rfl⟩
theorem len_data (s : ByteArray) : s.data.toList.length = s.size := by rw [Array.length_toList]; rfl
theorem runF_chunks (p : Int → Bool) (s : ByteArray) : ∀ (f pos : Nat), s.size ≤ pos + f → pos ≤ s.size → runF p s f pos = pos + (flat ((chunks (s.data.toList.drop pos)).takeWhile fun c => p c.1)).length
  | 0, pos, h1, h2 => by
    have : s.data.toList.drop pos = [] := List.drop_eq_nil_of_le (by rw [len_data]; omega)
    rw [this]; simp only [runF, chunks_nil, List.takeWhile_nil, flat_nil, List.length_nil]; omega
  | f + 1, pos, h1, h2 => by
    simp only [runF]
    by_cases hlt : pos < s.size
    · rw [if_pos hlt]
      have hne : s.data.toList.drop pos ≠ [] := fun e => by
        have : (s.data.toList.drop pos).length = 0 := by rw [e]; rfl
        rw [List.length_drop, len_data] at this; omega
      have hw := decodeL_width (s.data.toList.drop pos)
      have hle := decodeL_le _ hne
      rw [List.length_drop, len_data] at hle
      obtain ⟨r1, r2⟩ := runeAt_drop s pos
      rw [r1, r2, chunks_step hne, List.takeWhile_cons]
      by_cases hp : p ((decodeL (s.data.toList.drop pos)).1 : Int) = true
      · rw [if_pos hp, if_pos hp, flat_cons, List.length_append, runF_chunks p s f _ (by omega) (by omega), List.drop_drop, List.length_take, List.length_drop, len_data]
        omega
      · rw [if_neg hp, if_neg hp]; rfl
    · rw [if_neg hlt]
      have : s.data.toList.drop pos = [] := List.drop_eq_nil_of_le (by rw [len_data]; omega)
      rw [this]; simp only [chunks_nil, List.takeWhile_nil, flat_nil, List.length_nil]; omega
theorem data_take (s : ByteArray) (n : Nat) : (s.extract 0 n).data.toList = s.data.toList.take n := by
  simp [ByteArray.data_extract]
theorem data_drop (s : ByteArray) (n : Nat) : (s.extract n s.size).data.toList = s.data.toList.drop n := by
  simp only [ByteArray.data_extract, Array.toList_extract]
  rw [List.extract_eq_take_drop]
  exact List.take_of_length_le (by rw [List.length_drop, len_data]; omega)
theorem ba_data (s : ByteArray) (l : List UInt8) (h : s.data.toList = l) : s = ⟨l.toArray⟩ := by
  subst h; obtain ⟨a⟩ := s; simp
theorem split_chunks (p : Ch → Bool) (l : List UInt8) : l.take (flat ((chunks l).takeWhile p)).length = flat ((chunks l).takeWhile p) ∧ l.drop (flat ((chunks l).takeWhile p)).length = flat ((chunks l).dropWhile p) ∧ GoodC ((chunks l).takeWhile p) ∧ GoodC ((chunks l).dropWhile p) := by
  have e : l = flat ((chunks l).takeWhile p) ++ flat ((chunks l).dropWhile p) := by
    rw [← flat_append, List.takeWhile_append_dropWhile, flat_chunks]
  have hg := good_chunks l
  rw [← List.takeWhile_append_dropWhile (p := p) (l := chunks l)] at hg
  refine ⟨?_, ?_, hg.pre, hg.suf⟩
  · conv => lhs; arg 2; rw [e]
    exact List.take_left
  · conv => lhs; arg 2; rw [e]
    exact List.drop_left
theorem runeCountFrom_chunks (s : ByteArray) : ∀ (f pos : Nat), s.size ≤ pos + f → runeCountFrom s f pos = (chunks (s.data.toList.drop pos)).length
  | 0, pos, h => by
    have : s.data.toList.drop pos = [] := List.drop_eq_nil_of_le (by rw [len_data]; omega)
    rw [this]; rfl
  | f + 1, pos, h => by
    unfold runeCountFrom
    by_cases hlt : pos < s.size
    · have hne : s.data.toList.drop pos ≠ [] := fun e => by
        have : (s.data.toList.drop pos).length = 0 := by rw [e]; rfl
        rw [List.length_drop, len_data] at this; omega
      have hw := decodeL_width (s.data.toList.drop pos)
      rw [if_pos hlt, ← decodeL_drop, runeCountFrom_chunks s f _ (by omega), chunks_step hne, List.length_cons, List.drop_drop]
      omega
    · have : s.data.toList.drop pos = [] := List.drop_eq_nil_of_le (by rw [len_data]; omega)
      rw [if_neg hlt, this]; rfl
theorem runeCount_chunks (s : ByteArray) : runeCount s = (chunks s.data.toList).length := by
  have := runeCountFrom_chunks s s.size 0 (by omega)
  rw [List.drop_zero] at this
  exact this
theorem decodeL_high {b : UInt8} {t : List UInt8} (h : 128 ≤ b.toNat) : 128 ≤ (decodeL (b :: t)).1 := by
  have := (decode_high ⟨(b :: t).toArray⟩ 0 (by simp [ByteArray.size]) (by show 128 ≤ b.toNat; exact h)).1
  exact this
theorem GoodC.low {c : Ch} {cs : List Ch} (h : GoodC (c :: cs)) (hc : c.1 < 128) : ∃ b : UInt8, c.2 = [b] ∧ b.toNat = c.1 := by
  obtain ⟨h1, _, h3⟩ := h.ne
  obtain ⟨n, l⟩ := c
  cases l with
  | nil => exact absurd rfl h1
  | cons b t =>
    have h3 : decodeL (b :: (t ++ flat cs)) = (n, (b :: t).length) := h3
    by_cases hb : b.toNat < 128
    · rw [decodeL_ascii b _ hb] at h3
      injection h3 with e1 e2
      have : t = [] := by cases t with
        | nil => rfl
        | cons x t => simp at e2
      subst this
      exact ⟨b, rfl, e1⟩
    · have := decodeL_high (b := b) (t := t ++ flat cs) (by omega)
      rw [h3] at this
      have hc : n < 128 := hc
      have : 128 ≤ n := this
      omega
theorem GoodC.byte {c : Ch} {cs : List Ch} (h : GoodC (c :: cs)) {b : UInt8} {t : List UInt8} (hb : flat (c :: cs) = b :: t) (hl : b.toNat < 128) : c.1 = b.toNat := by
  unfold GoodC at h
  rw [hb, chunks_low hl] at h
  injection h with h1 _
  rw [← h1]
theorem classF_low {c : Int} (h : classF c = 5 ∨ classF c = 3 ∨ classF c = 0 ∨ classF c = 1) : 0 ≤ c ∧ c < 128 := by
  unfold classF at h
  repeat' split at h
  all_goals omega
theorem numGo_chunks (d : ByteArray) : ∀ (cs : List Ch) (pos : Nat) (v : Int), (∀ c ∈ cs, ∃ b : UInt8, c.2 = [b] ∧ b.toNat = c.1) → d.data.toList.drop pos = flat cs → numGo d cs.length pos v = numC cs v
  | [], pos, v, _, _ => rfl
  | c :: cs, pos, v, h, hd => by
    obtain ⟨b, h1, h2⟩ := h c (by simp)
    rw [flat_cons, h1] at hd
    have hlt : pos < d.data.toList.length := by
      rcases Nat.lt_or_ge pos d.data.toList.length with hh | hh
      · exact hh
      · rw [List.drop_eq_nil_of_le hh] at hd; simp at hd
    rw [List.drop_eq_getElem_cons hlt] at hd
    injection hd with e1 e2
    have hlt' : pos < d.size := by rw [← len_data]; exact hlt
    have hb : byteAt d pos = (c.1 : Int) := by
      simp only [byteAt, Int.toNat_natCast]
      rw [dif_pos hlt']
      have : d[pos]'hlt' = b := by rw [← e1]; rfl
      rw [this, h2]
    simp only [List.length_cons, numGo, numC, hb]
    rw [numGo_chunks d cs (pos + 1) _ (fun c hc => h c (by simp [hc])) e2]
theorem flat_one {cs : List Ch} (h : ∀ c ∈ cs, ∃ b : UInt8, c.2 = [b] ∧ b.toNat = c.1) : (flat cs).length = cs.length := by
  induction cs with
  | nil => rfl
  | cons c cs ih =>
    obtain ⟨b, h1, _⟩ := h c (by simp)
    rw [flat_cons, List.length_append, ih fun c hc => h c (by simp [hc]), h1, List.length_cons]; simp; omega
theorem GoodC.lows {cs : List Ch} (h : GoodC cs) (hc : ∀ c ∈ cs, c.1 < 128) : ∀ c ∈ cs, ∃ b : UInt8, c.2 = [b] ∧ b.toNat = c.1 := by
  induction cs with
  | nil => exact fun c hc => by simp at hc
  | cons d cs ih =>
    intro c hm
    rcases List.mem_cons.1 hm with rfl | hm
    · exact h.low (hc _ (by simp))
    · exact ih h.tail (fun c hc' => hc c (by simp [hc'])) c hm
theorem takeWhile_all {α : Type} (p : α → Bool) (l : List α) : ∀ c ∈ l.takeWhile p, p c = true := by
  induction l with
  | nil => exact fun c h => by simp at h
  | cons x l ih =>
    intro c h
    rw [List.takeWhile_cons] at h
    split at h
    · rename_i hx
      rcases List.mem_cons.1 h with rfl | h
      · exact hx
      · exact ih c h
    · simp at h
theorem hasPrefix2 (x y : UInt8) (l : List UInt8) : Lib.hasPrefix l [x, y] = (match l with
    | a :: b :: _ => x == a && y == b
    | _ => false) := by
  unfold Lib.hasPrefix
  match l with
  | [] => rfl
  | [a] => simp [List.isPrefixOf]
  | a :: b :: t => simp [List.isPrefixOf]
theorem beq_u8 (a b : UInt8) : (a == b) = (a.toNat == b.toNat) := by
  rw [Bool.eq_iff_iff, beq_iff_eq, beq_iff_eq]; exact ⟨fun h => by rw [h], fun h => UInt8.toNat_inj.1 h⟩
theorem sign2_bytes {c : Ch} {r : List Ch} (h : GoodC (c :: r)) (hc : c.1 < 128) : sign2 (c :: r) = (Lib.hasPrefix (flat (c :: r)) [58, 61] || Lib.hasPrefix (flat (c :: r)) [61, 62]) := by
  obtain ⟨b, h1, h2⟩ := h.low hc
  rw [hasPrefix2, hasPrefix2, flat_cons, h1]
  cases r with
  | nil => rfl
  | cons d r =>
    obtain ⟨g1, g2, g3⟩ := h.tail.ne
    obtain ⟨n, dl⟩ := d
    cases dl with
    | nil => exact absurd rfl g1
    | cons x t =>
      rw [flat_cons]
      simp only [List.cons_append, List.nil_append, sign2]
      have e1 : (c.1 == 58) = ((58 : UInt8) == b) := by rw [← h2, beq_u8, Bool.beq_comm]; rfl
      have e2 : (c.1 == 61) = ((61 : UInt8) == b) := by rw [← h2, beq_u8, Bool.beq_comm]; rfl
      have key : ∀ k : UInt8, k.toNat < 128 → (n == k.toNat) = (k == x) := fun k hk => by
        rw [beq_u8]
        by_cases hx : x.toNat < 128
        · have := h.tail.byte (b := x) (t := t ++ flat r) (by rw [flat_cons]; rfl) hx
          have : n = x.toNat := this
          rw [this, Bool.beq_comm]
        · have := decodeL_high (b := x) (t := t ++ flat r) (by omega)
          have g3 : decodeL (x :: (t ++ flat r)) = (n, _) := g3
          rw [g3] at this
          have : 128 ≤ n := this
          rw [Bool.eq_iff_iff, beq_iff_eq, beq_iff_eq]; omega
      have e3 := key 61 (by decide)
      have e4 := key 62 (by decide)
      rw [e1, e2]
      have e3 : (n == 61) = ((61 : UInt8) == x) := e3
      have e4 : (n == 62) = ((62 : UInt8) == x) := e4
      rw [e3, e4]
theorem GoodC.take_flat {A B : List Ch} : (flat (A ++ B)).take (flat A).length = flat A ∧ (flat (A ++ B)).drop (flat A).length = flat B := by
  rw [flat_append]; exact ⟨List.take_left, List.drop_left⟩
theorem sign2_low {c d : Ch} {r : List Ch} (h : sign2 (c :: d :: r) = true) : d.1 < 128 := by
  simp only [sign2, Bool.or_eq_true, Bool.and_eq_true, beq_iff_eq] at h; omega
theorem sign2_two {c : Ch} {r : List Ch} (h : sign2 (c :: r) = true) : ∃ d r', r = d :: r' := by
  cases r with
  | nil => simp [sign2] at h
  | cons d r => exact ⟨_, _, rfl⟩
theorem step_eq (s : ByteArray) (c : Ch) (r : List Ch) (hcs : chunks s.data.toList = c :: r) :
    match stepC (c :: r) with
    | .err e => (stepF s).e = e ∧ e ≠ 0
    | .tok t r' => (stepF s).e = 0 ∧ (stepF s).t = t ∧ chunks (s.extract (stepF s).n.toNat s.size).data.toList = r' := by
  have hg : GoodC (c :: r) := by rw [← hcs]; exact good_chunks _
  have hfl : flat (c :: r) = s.data.toList := by rw [← hcs, flat_chunks]
  have hne : s.data.toList ≠ [] := fun e => by rw [e, chunks_nil] at hcs; simp at hcs
  have hsz : 0 < s.size := by rw [← len_data]; exact List.length_pos_iff.2 hne
  have hd1 : (Lib.decodeGo s).1 = c.1 := by
    rw [(decodeGo_rune hsz).1, (runeAt_drop s 0).1, List.drop_zero]
    rw [chunks_step hne] at hcs
    injection hcs with h1 _
    rw [← h1]
  unfold stepF stepC
  simp only [hd1]
  by_cases h2 : classF c.1 = 2
  · rw [if_pos h2, if_pos h2]
    obtain ⟨k1, k2, k3, k4⟩ := split_chunks wB s.data.toList
    rw [hcs] at k1 k2 k3 k4
    have hn : runF withinF s s.size 0 = (flat ((c :: r).takeWhile wB)).length := by
      rw [runF_chunks withinF s s.size 0 (by omega) (by omega), List.drop_zero, hcs, Nat.zero_add]; rfl
    have hrc : runeCount (s.extract 0 (flat ((c :: r).takeWhile wB)).length) = ((c :: r).takeWhile wB).length := by
      rw [runeCount_chunks, data_take, k1, k3]
    unfold wordF
    rw [hn, hrc]
    by_cases h20 : 20 < ((c :: r).takeWhile wB).length
    · rw [if_pos h20, if_pos h20]; exact ⟨rfl, by decide⟩
    · rw [if_neg h20, if_neg h20]
      refine ⟨rfl, ?_, ?_⟩
      · show TokT.mk 1 (s.extract 0 _) 0 = TokT.mk 1 (baOf _) 0
        rw [ba_data (s.extract 0 (flat ((c :: r).takeWhile wB)).length) (flat ((c :: r).takeWhile wB)) (by rw [data_take, k1])]; rfl
      · show chunks (s.extract ((flat ((c :: r).takeWhile wB)).length : Int).toNat s.size).data.toList = _
        rw [Int.toNat_natCast, data_drop, k2, k4]
  · rw [if_neg h2, if_neg h2]
    by_cases h3 : classF c.1 = 3
    · rw [if_pos h3, if_pos h3]
      obtain ⟨k1, k2, k3, k4⟩ := split_chunks dB s.data.toList
      rw [hcs] at k1 k2 k3 k4
      have hn : runF isDigit s s.size 0 = (flat ((c :: r).takeWhile dB)).length := by
        rw [runF_chunks isDigit s s.size 0 (by omega) (by omega), List.drop_zero, hcs, Nat.zero_add]; rfl
      have hlow : ∀ c' ∈ (c :: r).takeWhile dB, c'.1 < 128 := fun c' hc' => by
        have := isDigit_iff (takeWhile_all dB _ c' hc'); omega
      have hlows := k3.lows hlow
      have hlen := flat_one hlows
      have hsplit : (flat ((c :: r).takeWhile dB)).length + (flat ((c :: r).dropWhile dB)).length = s.size := by
        rw [← List.length_append, ← flat_append, List.takeWhile_append_dropWhile, hfl, len_data]
      have hcond : ((flat ((c :: r).takeWhile dB)).length < s.size ∧ withinF (Lib.decodeGo (s.extract (flat ((c :: r).takeWhile dB)).length s.size)).1 = true) ↔ headW ((c :: r).dropWhile dB) = true := by
        cases hdw : (c :: r).dropWhile dB with
        | nil =>
          rw [hdw] at hsplit
          simp only [flat_nil, List.length_nil] at hsplit
          simp only [headW, Bool.false_eq_true, iff_false]
          exact fun h => by omega
        | cons d r' =>
          rw [hdw] at k2 k4 hsplit
          have hdz : 0 < (s.extract (flat ((c :: r).takeWhile dB)).length s.size).size := by
            rw [← len_data, data_drop, k2]
            exact List.length_pos_iff.2 (fun e => by unfold GoodC at k4; rw [e, chunks_nil] at k4; simp at k4)
          have e1 : (Lib.decodeGo (s.extract (flat ((c :: r).takeWhile dB)).length s.size)).1 = d.1 := by
            rw [(decodeGo_rune hdz).1, (runeAt_drop _ 0).1, List.drop_zero, data_drop, k2]
            have hne2 : flat (d :: r') ≠ [] := fun e => by unfold GoodC at k4; rw [e, chunks_nil] at k4; simp at k4
            unfold GoodC at k4
            rw [chunks_step hne2] at k4
            injection k4 with h1 _
            exact congrArg Prod.fst h1
          rw [e1]
          simp only [headW, wB]
          refine ⟨fun h => h.2, fun h => ⟨?_, h⟩⟩
          have : 0 < (flat (d :: r')).length := List.length_pos_iff.2 (fun e => by unfold GoodC at k4; rw [e, chunks_nil] at k4; simp at k4)
          omega
      unfold numberF
      rw [hn]
      by_cases hw : headW ((c :: r).dropWhile dB) = true
      · rw [if_pos hw, if_pos (hcond.2 hw)]; exact ⟨rfl, by decide⟩
      · rw [if_neg hw, if_neg (fun h => hw (hcond.1 h))]
        have hnum : numGo (s.extract 0 (flat ((c :: r).takeWhile dB)).length) (flat ((c :: r).takeWhile dB)).length 0 0 = numC ((c :: r).takeWhile dB) 0 := by
          conv => lhs; arg 2; rw [hlen]
          exact numGo_chunks _ _ 0 0 hlows (by rw [List.drop_zero, data_take, k1])
        rw [hnum]
        cases numC ((c :: r).takeWhile dB) 0 with
        | none => exact ⟨rfl, by decide⟩
        | some v =>
          refine ⟨rfl, rfl, ?_⟩
          show chunks (s.extract ((flat ((c :: r).takeWhile dB)).length : Int).toNat s.size).data.toList = _
          rw [Int.toNat_natCast, data_drop, k2, k4]
    · rw [if_neg h3, if_neg h3]
      by_cases h5 : classF c.1 = 5
      · rw [if_pos h5, if_pos h5]
        have hlow : c.1 < 128 := by have := classF_low (.inl h5); omega
        obtain ⟨b, hb1, hb2⟩ := hg.low hlow
        have hs2 := sign2_bytes hg hlow
        rw [hfl] at hs2
        unfold markF markN
        rw [← hs2]
        have fin : ∀ A B : List Ch, c :: r = A ++ B → ((flat A).length : Int) = (if sign2 (c :: r) = true then 2 else 1) → TokT.mk 3 (s.extract 0 (if sign2 (c :: r) = true then (2 : Int) else 1).toNat) 0 = ⟨3, baOf A, 0⟩ ∧ chunks (s.extract (if sign2 (c :: r) = true then (2 : Int) else 1).toNat s.size).data.toList = B := by
          intro A B hAB hl
          rw [← hl, Int.toNat_natCast]
          have e1 := GoodC.take_flat (A := A) (B := B)
          rw [← hAB, hfl] at e1
          refine ⟨?_, ?_⟩
          · rw [ba_data (s.extract 0 (flat A).length) (flat A) (by rw [data_take, e1.1])]; rfl
          · rw [data_drop, e1.2]
            rw [hAB] at hg
            exact hg.suf
        by_cases hs : sign2 (c :: r) = true
        · obtain ⟨d, r', hr⟩ := sign2_two hs
          subst hr
          obtain ⟨b2, hb3, _⟩ := hg.tail.low (sign2_low hs)
          have := fin [c, d] r' rfl (by rw [if_pos hs, flat_cons, flat_cons, hb1, hb3]; rfl)
          rw [if_pos hs]
          rw [if_pos hs] at this ⊢
          exact ⟨rfl, this⟩
        · have := fin [c] r rfl (by rw [if_neg hs, flat_cons, hb1]; rfl)
          rw [if_neg hs]
          rw [if_neg hs] at this ⊢
          exact ⟨rfl, this⟩
      · rw [if_neg h5, if_neg h5]; exact ⟨rfl, by decide⟩
theorem ba_size0 {s : ByteArray} (h : s.size = 0) : s.data.toList = [] := List.eq_nil_of_length_eq_zero (by rw [len_data, h])
theorem tok_eq : ∀ (f : Nat) (s : ByteArray) (acc : List TokT), tokGo f s acc = tokC f (chunks s.data.toList) acc
  | 0, s, acc => by simp only [tokGo, tokC]
  | f + 1, s, acc => by
    by_cases hz : s.size = 0
    · rw [tokGo, if_pos hz, ba_size0 hz, chunks_nil]; rfl
    · have hsz : 0 < s.size := by omega
      have hne : s.data.toList ≠ [] := fun e => by have := len_data s; rw [e] at this; simp at this; omega
      cases hcs : chunks s.data.toList with
      | nil => exact absurd hcs (chunks_ne hne)
      | cons c r =>
        have hst := chunks_step hne
        rw [hcs] at hst
        injection hst with hc hr
        have hd1 : (Lib.decodeGo s).1 = c.1 := by
          rw [(decodeGo_rune hsz).1, (runeAt_drop s 0).1, List.drop_zero, hc]
        have hd2 : (Lib.decodeGo s).2 = (decodeL s.data.toList).2 := by
          rw [(decodeGo_rune hsz).2, (runeAt_drop s 0).2, List.drop_zero]
        rw [tokGo, if_neg hz, tokC, hd1]
        by_cases h0 : classF c.1 = 0
        · rw [if_pos h0, if_pos h0, tok_eq f, hd2, data_drop, hr]
        · rw [if_neg h0, if_neg h0]
          by_cases h1 : classF c.1 = 1
          · rw [if_pos h1, if_pos h1, tok_eq f]
            obtain ⟨k1, k2, k3, k4⟩ := split_chunks nB s.data.toList
            rw [hcs] at k1 k2 k3 k4
            have hn : runF (· != 10) s s.size 0 = (flat ((c :: r).takeWhile nB)).length := by
              rw [runF_chunks _ s s.size 0 (by omega) (by omega), List.drop_zero, hcs, Nat.zero_add]; rfl
            rw [hn, data_drop, k2, k4]
          · rw [if_neg h1, if_neg h1]
            have hs := step_eq s c r hcs
            cases hst : stepC (c :: r) with
            | err e =>
              rw [hst] at hs
              obtain ⟨e1, e2⟩ := hs
              rw [if_pos (by rw [e1]; exact e2), e1]
            | tok t r' =>
              rw [hst] at hs
              obtain ⟨e1, e2, e3⟩ := hs
              rw [if_neg (by rw [e1]; simp), tok_eq f, e2, e3]
end Go.Ax

namespace Go.Ax
open Go.Lib
set_option maxRecDepth 10000
theorem takeWhile_stop {α : Type} {p : α → Bool} {x : α} (hx : p x = false) (A X : List α) : (A ++ x :: X).takeWhile p = A.takeWhile p ∧ (A ++ x :: X).dropWhile p = A.dropWhile p ++ x :: X := by
  induction A with
  | nil => simp [hx]
  | cons a A ih =>
    rw [List.cons_append, List.takeWhile_cons, List.dropWhile_cons, List.takeWhile_cons, List.dropWhile_cons, ih.1, ih.2]
    cases p a <;> exact ⟨rfl, rfl⟩
theorem dropWhile_len {α : Type} (p : α → Bool) (l : List α) : (l.dropWhile p).length ≤ l.length := (List.dropWhile_suffix p).length_le
theorem dropWhile_lt {α : Type} {p : α → Bool} {x : α} (hx : p x = true) (l : List α) : ((x :: l).dropWhile p).length < (x :: l).length := by
  rw [List.dropWhile_cons, if_pos hx, List.length_cons]
  have := dropWhile_len p l
  omega
theorem stepC_len {c : Ch} {r r' : List Ch} {t : TokT} (h : stepC (c :: r) = .tok t r') : r'.length < (c :: r).length := by
  unfold stepC at h
  simp only at h
  split at h
  · rename_i h2
    split at h
    · exact absurd h (by simp)
    · injection h with _ h; subst h
      exact dropWhile_lt (by simp [wB, withinF, h2]) r
  · split at h
    · rename_i h3
      split at h
      · exact absurd h (by simp)
      · split at h
        · exact absurd h (by simp)
        · injection h with _ h; subst h
          exact dropWhile_lt (by simp [dB, isDigit, h3]) r
    · split at h
      · split at h
        · injection h with _ h; subst h; simp; omega
        · injection h with _ h; subst h; simp
      · exact absurd h (by simp)
theorem nB_hash {c : Ch} (h : classF c.1 = 1) : nB c = true := by
  unfold nB
  by_cases h10 : (c.1 : Int) = 10
  · rw [h10] at h; exact absurd h (by decide)
  · simpa using h10
theorem tokC_fuel : ∀ (f g : Nat) (cs : List Ch) (acc : List TokT), cs.length < f → cs.length < g → tokC f cs acc = tokC g cs acc
  | 0, g, cs, acc, h, _ => by omega
  | f + 1, 0, cs, acc, _, h => by omega
  | f + 1, g + 1, [], acc, _, _ => rfl
  | f + 1, g + 1, c :: r, acc, h1, h2 => by
    simp only [List.length_cons] at h1 h2
    rw [tokC, tokC]
    split
    · exact tokC_fuel f g r acc (by omega) (by omega)
    · split
      · rename_i h3
        have := dropWhile_lt (nB_hash h3) r
        simp only [List.length_cons] at this
        exact tokC_fuel f g _ acc (by omega) (by omega)
      · cases hs : stepC (c :: r) with
        | err e => rfl
        | tok t r' =>
          have := stepC_len hs
          simp only [List.length_cons] at this
          exact tokC_fuel f g r' _ (by omega) (by omega)
def tokT (cs : List Ch) (acc : List TokT) : Option (List TokT) × Int := tokC (cs.length + 1) cs acc
theorem tokC_T {f : Nat} {cs : List Ch} {acc : List TokT} (h : cs.length < f) : tokC f cs acc = tokT cs acc := tokC_fuel _ _ _ _ h (by omega)
theorem tokT_nil (acc : List TokT) : tokT [] acc = (some (acc ++ [noTok]), 0) := rfl
theorem tokT_cons (c : Ch) (r : List Ch) (acc : List TokT) : tokT (c :: r) acc = if classF c.1 = 0 then tokT r acc else if classF c.1 = 1 then tokT ((c :: r).dropWhile nB) acc else
    match stepC (c :: r) with
    | .err e => (none, e)
    | .tok t r' => tokT r' (acc ++ [t]) := by
  show tokC ((c :: r).length + 1) (c :: r) acc = _
  rw [tokC]
  split
  · rw [tokC_T (by simp)]
  · split
    · rename_i h1
      rw [tokC_T (dropWhile_lt (nB_hash h1) r)]
    · cases hs : stepC (c :: r) with
      | err e => rfl
      | tok t r' => exact tokC_T (stepC_len hs)
abbrev nlc : Ch := (10, [10])
theorem stepC_app (c : Ch) (r X : List Ch) : stepC (c :: (r ++ nlc :: X)) = match stepC (c :: r) with
    | .err e => .err e
    | .tok t r' => .tok t (r' ++ nlc :: X) := by
  have hw := takeWhile_stop (p := wB) (x := nlc) (by decide) (c :: r) X
  have hd := takeWhile_stop (p := dB) (x := nlc) (by decide) (c :: r) X
  rw [List.cons_append] at hw hd
  unfold stepC
  simp only [hw.1, hw.2, hd.1, hd.2]
  split
  · split <;> rfl
  · split
    · have : headW ((c :: r).dropWhile dB ++ nlc :: X) = headW ((c :: r).dropWhile dB) := by
        cases (c :: r).dropWhile dB with
        | nil => exact (by decide : wB nlc = false)
        | cons d l => rfl
      rw [this]
      split
      · rfl
      · split <;> simp_all
    · split
      · cases r with
        | nil =>
          have e1 : sign2 (c :: ([] ++ nlc :: X)) = false := by simp [sign2]
          have e2 : sign2 [c] = false := rfl
          rw [e1, e2]; rfl
        | cons d r =>
          have e1 : sign2 (c :: (d :: r ++ nlc :: X)) = sign2 (c :: d :: r) := rfl
          rw [e1]
          split <;> rfl
      · rfl
theorem tokT_app (X : List Ch) : ∀ (n : Nat) (A : List Ch) (acc : List TokT), A.length ≤ n → tokT (A ++ nlc :: X) acc = match tokT A acc with
    | (some l, _) => tokT (nlc :: X) l.dropLast
    | (none, e) => (none, e)
  | n, [], acc, _ => by rw [tokT_nil]; simp
  | 0, c :: r, acc, h => by simp at h
  | n + 1, c :: r, acc, h => by
    simp only [List.length_cons] at h
    rw [List.cons_append, tokT_cons, tokT_cons, stepC_app]
    split
    · exact tokT_app X n r acc (by omega)
    · split
      · rename_i h1
        have hd := takeWhile_stop (p := nB) (x := nlc) (by decide) (c :: r) X
        rw [List.cons_append] at hd
        rw [hd.2]
        have := dropWhile_lt (nB_hash h1) r
        simp only [List.length_cons] at this
        exact tokT_app X n _ acc (by omega)
      · cases hs : stepC (c :: r) with
        | err e => rfl
        | tok t r' =>
          have := stepC_len hs
          simp only [List.length_cons] at this
          exact tokT_app X n r' _ (by omega)
theorem stepC_err {cs : List Ch} {e : Int} (h : stepC cs = .err e) : e = 2 ∨ e = 10 := by
  unfold stepC at h
  repeat' split at h
  all_goals first | (injection h with h; omega) | (exact absurd h (by simp))
theorem tokT_ends : ∀ (n : Nat) (cs : List Ch) (acc : List TokT), cs.length ≤ n → (∃ l, tokT cs acc = (some (l ++ [noTok]), 0)) ∨ (∃ e, tokT cs acc = (none, e) ∧ (e = 2 ∨ e = 10))
  | n, [], acc, _ => .inl ⟨acc, rfl⟩
  | 0, c :: r, b, h => by simp at h
  | n + 1, c :: r, b, h => by
    simp only [List.length_cons] at h
    rw [tokT_cons]
    split
    · exact tokT_ends n r b (by omega)
    · split
      · rename_i h1
        have := dropWhile_lt (nB_hash h1) r
        simp only [List.length_cons] at this
        exact tokT_ends n _ b (by omega)
      · cases hs : stepC (c :: r) with
        | err e => exact .inr ⟨e, rfl, stepC_err hs⟩
        | tok t r' =>
          have := stepC_len hs
          simp only [List.length_cons] at this
          exact tokT_ends n r' _ (by omega)
def vS (s : ByteArray) : Bool := validD s.data.toList
theorem chunks_len (l : List UInt8) : (chunks l).length ≤ l.length := by
  generalize hn : l.length = n
  induction n using Nat.strongRecOn generalizing l with
  | _ n ih =>
    by_cases h : l = []
    · subst h; simp [chunks_nil]
    · have hw := decodeL_width l
      have hl : 0 < l.length := List.length_pos_iff.2 h
      have := ih (l.drop (decodeL l).2).length (by rw [List.length_drop]; omega) _ rfl
      rw [chunks_step h, List.length_cons]
      rw [List.length_drop] at this; omega
theorem tokensF_T (s : ByteArray) (h : s.size ≤ 4000) : tokensF vS s = if vS s = false then (none, 10) else tokT (chunks s.data.toList) [] := by
  rw [tokensF, if_neg (by omega), tok_eq]
  have := chunks_len s.data.toList
  rw [len_data] at this
  rw [tokC_T (by omega)]
theorem low_chunks : ∀ (l : List UInt8), (∀ b ∈ l, b.toNat < 128) → chunks l = l.map fun b => (b.toNat, [b])
  | [], _ => rfl
  | b :: t, h => by rw [chunks_low (h b (by simp)), low_chunks t fun x hx => h x (by simp [hx])]; rfl
theorem all_low (l : List UInt8) (h : ∀ b ∈ l, b.toNat < 128) : (l.map fun b => ((b.toNat, [b]) : Ch)).all okCh = true := by
  rw [List.all_eq_true]
  intro c hc
  obtain ⟨b, hb, rfl⟩ := List.mem_map.1 hc
  have := h b hb
  simp [okCh]; omega
end Go.Ax

namespace Go.Ax
open Go.Lib
set_option maxRecDepth 10000
def lowC (l : List UInt8) : List Ch := l.map fun b => (b.toNat, [b])
theorem flat_low : ∀ l : List UInt8, flat (lowC l) = l
  | [] => rfl
  | b :: t => by show flat ((b.toNat, [b]) :: lowC t) = _; rw [flat_cons, flat_low t]; rfl
inductive TokOk : TokT → Prop
  | word (c : Ch) (r : List Ch) (hg : GoodC (c :: r)) (hw : ∀ d ∈ c :: r, wB d = true) (hc : classF c.1 = 2) (hl : (c :: r).length ≤ 20) (ok : (c :: r).all okCh = true) : TokOk ⟨1, baOf (c :: r), 0⟩
  | num (v : Nat) (h : v ≤ 65535) : TokOk ⟨2, ⟨#[]⟩, v⟩
  | one (c : Ch) (hg : GoodC [c]) (hc : classF c.1 = 5) (ok : [c].all okCh = true) : TokOk ⟨3, baOf [c], 0⟩
  | two (c d : Ch) (hg : GoodC [c, d]) (hc : classF c.1 = 5) (hs : sign2 [c, d] = true) (ok : [c, d].all okCh = true) : TokOk ⟨3, baOf [c, d], 0⟩
def txtB (t : TokT) : List UInt8 := if t.kind = 2 then decDigits t.n.toNat else t.s.data.toList
theorem baOf_data (cs : List Ch) : (baOf cs).data.toList = flat cs := by simp [baOf]
theorem dec_digit : ∀ (u : Nat), ∀ b ∈ decDigits u, 48 ≤ b.toNat ∧ b.toNat ≤ 57 := by
  intro u
  induction u using Nat.strongRecOn with
  | _ u ih =>
    intro b hb
    rw [decDigits] at hb
    have hd : ∀ k, k < 10 → (UInt8.ofNat (48 + k)).toNat = 48 + k := fun k hk => by
      simp only [UInt8.toNat_ofNat']; omega
    split at hb
    · rename_i h
      rw [List.mem_singleton] at hb; subst hb
      have := hd u h; omega
    · rename_i h
      rcases List.mem_append.1 hb with hb | hb
      · exact ih (u / 10) (by omega) b hb
      · rw [List.mem_singleton] at hb; subst hb
        have := hd (u % 10) (by omega); omega
theorem dec_ne (u : Nat) : decDigits u ≠ [] := by
  rw [decDigits]; split <;> simp
theorem numC_app : ∀ (a b : List Ch) (v : Int), numC (a ++ b) v = (numC a v).bind (numC b)
  | [], b, v => rfl
  | c :: a, b, v => by
    simp only [List.cons_append, numC]
    split
    · rfl
    · exact numC_app a b _
theorem numC_dec : ∀ (u : Nat), u ≤ 65535 → numC (lowC (decDigits u)) 0 = some (u : Int) := by
  intro u
  induction u using Nat.strongRecOn with
  | _ u ih =>
    intro hu
    have hd : ∀ k, k < 10 → (UInt8.ofNat (48 + k)).toNat = 48 + k := fun k hk => by
      simp only [UInt8.toNat_ofNat']; omega
    rw [decDigits]
    split
    · rename_i h
      have h1 := hd u h
      simp only [lowC, List.map_cons, List.map_nil, numC, h1]
      rw [if_neg (by omega)]
      exact congrArg some (by omega)
    · rename_i h
      have h1 := hd (u % 10) (by omega)
      have h2 := ih (u / 10) (by omega) (by omega)
      rw [lowC, List.map_append]
      rw [lowC] at h2
      rw [numC_app, h2]
      simp only [List.map_cons, List.map_nil, Option.bind_some, numC, h1]
      rw [if_neg (by omega)]
      exact congrArg some (by omega)
theorem dec_len5 (u : Nat) (h : u ≤ 65535) : (decDigits u).length ≤ 5 := by
  have one : ∀ k, k < 10 → (decDigits k).length ≤ 1 := fun k hk => by rw [decDigits_one hk]; simp
  have st : ∀ k n, (decDigits (k / 10)).length ≤ n → (decDigits k).length ≤ n + 1 := fun k n hn => by
    rw [decDigits]; split
    · simp
    · simp; exact hn
  exact st _ _ (st _ _ (st _ _ (st _ _ (one _ (by omega)))))
theorem isDigit_of {c : Int} (h : 48 ≤ c ∧ c ≤ 57) : isDigit c = true := by
  have : c = 48 ∨ c = 49 ∨ c = 50 ∨ c = 51 ∨ c = 52 ∨ c = 53 ∨ c = 54 ∨ c = 55 ∨ c = 56 ∨ c = 57 := by omega
  rcases this with rfl | rfl | rfl | rfl | rfl | rfl | rfl | rfl | rfl | rfl <;> decide
theorem numC_range : ∀ (cs : List Ch) (v : Int), (∀ c ∈ cs, dB c = true) → 0 ≤ v → v ≤ 65535 → ∀ w, numC cs v = some w → 0 ≤ w ∧ w ≤ 65535
  | [], v, _, h0, h1, w, h => by simp only [numC] at h; injection h with h; omega
  | c :: cs, v, hc, h0, h1, w, h => by
    simp only [numC] at h
    have := isDigit_iff (hc c (by simp))
    split at h
    · exact absurd h (by simp)
    · exact numC_range cs _ (fun d hd => hc d (by simp [hd])) (by omega) (by omega) w h
def wt (l : List TokT) : Nat := (l.map fun t => (txtB t).length + 1).sum
theorem wt_app (a b : List TokT) : wt (a ++ b) = wt a + wt b := by simp [wt]
theorem wt_one (t : TokT) : wt [t] = (txtB t).length + 1 := by simp [wt]
theorem GoodC.pos {c : Ch} {cs : List Ch} (h : GoodC (c :: cs)) : 1 ≤ (flat (c :: cs)).length := by
  have := List.length_pos_iff.2 h.ne.1
  rw [flat_cons, List.length_append]; omega
theorem all_split {A B : List Ch} (h : (A ++ B).all okCh = true) : A.all okCh = true ∧ B.all okCh = true := by
  rw [List.all_append, Bool.and_eq_true] at h; exact h
theorem stepC_ok {c : Ch} {r r' : List Ch} {t : TokT} (hg : GoodC (c :: r)) (ok : (c :: r).all okCh = true) (h : stepC (c :: r) = .tok t r') : TokOk t ∧ GoodC r' ∧ r'.all okCh = true ∧ (txtB t).length + 1 + 6 * (flat r').length ≤ 6 * (flat (c :: r)).length := by
  unfold stepC at h
  simp only at h
  split at h
  · rename_i h2
    split at h
    · exact absurd h (by simp)
    · rename_i h20
      injection h with h1 h; subst h; subst h1
      have hwc : wB c = true := by simp [wB, withinF, h2]
      have e := List.takeWhile_append_dropWhile (p := wB) (l := c :: r)
      have hg' := hg; have ok' := ok
      rw [← e] at hg' ok'
      have e3 : (flat (c :: r)).length = (flat ((c :: r).takeWhile wB)).length + (flat ((c :: r).dropWhile wB)).length := by
        rw [← List.length_append, ← flat_append, e]
      have hta := takeWhile_all wB (c :: r)
      have htw : (c :: r).takeWhile wB = c :: r.takeWhile wB := by rw [List.takeWhile_cons, if_pos hwc]
      have hgp := hg'.pre
      have hall := (all_split ok').1
      rw [htw] at hgp hall hta h20 e3 ⊢
      refine ⟨.word _ _ hgp hta h2 (by omega) hall, hg'.suf, (all_split ok').2, ?_⟩
      have e4 : (txtB ⟨1, baOf (c :: r.takeWhile wB), 0⟩).length = (flat (c :: r.takeWhile wB)).length := by simp only [txtB]; rw [if_neg (by decide), baOf_data]
      have := hgp.pos
      rw [e4, e3]; omega
  · split at h
    · rename_i h3
      split at h
      · exact absurd h (by simp)
      · cases hn : numC ((c :: r).takeWhile dB) 0 with
        | none => rw [hn] at h; exact absurd h (by simp)
        | some v =>
          rw [hn] at h
          injection h with h1 h; subst h; subst h1
          have hdc : dB c = true := by simp [dB, isDigit, h3]
          have e := List.takeWhile_append_dropWhile (p := dB) (l := c :: r)
          have hg' := hg; have ok' := ok
          rw [← e] at hg' ok'
          have e3 : (flat (c :: r)).length = (flat ((c :: r).takeWhile dB)).length + (flat ((c :: r).dropWhile dB)).length := by
            rw [← List.length_append, ← flat_append, e]
          have hta := takeWhile_all dB (c :: r)
          have htw : (c :: r).takeWhile dB = c :: r.takeWhile dB := by rw [List.takeWhile_cons, if_pos hdc]
          have hgp := hg'.pre
          obtain ⟨v0, v1⟩ := numC_range _ 0 hta (by omega) (by omega) v hn
          rw [htw] at hgp e3
          have hv : v = (v.toNat : Int) := by omega
          refine ⟨by rw [hv]; exact .num v.toNat (by omega), hg'.suf, (all_split ok').2, ?_⟩
          have e4 : (txtB ⟨2, ⟨#[]⟩, v⟩).length ≤ 5 := by
            unfold txtB
            rw [if_pos rfl]
            show (decDigits v.toNat).length ≤ 5
            exact dec_len5 _ (by omega)
          have := hgp.pos
          rw [e3]; omega
    · split at h
      · rename_i h5
        split at h
        · rename_i hs
          injection h with h1 h; subst h; subst h1
          obtain ⟨d, r2, hr⟩ := sign2_two hs
          subst hr
          have hgp : GoodC [c, d] := (show GoodC ([c, d] ++ r2) from hg).pre
          have hal := all_split (A := [c, d]) (B := r2) ok
          refine ⟨.two c d hgp h5 hs hal.1, hg.tail.tail, hal.2, ?_⟩
          have e4 : (txtB ⟨3, baOf [c, d], 0⟩).length = (flat [c, d]).length := by simp only [txtB]; rw [if_neg (by decide), baOf_data]
          have := hgp.pos
          show (txtB ⟨3, baOf [c, d], 0⟩).length + 1 + 6 * (flat r2).length ≤ 6 * (flat ([c, d] ++ r2)).length
          rw [e4, flat_append, List.length_append]; omega
        · injection h with h1 h; subst h; subst h1
          have hgp : GoodC [c] := (show GoodC ([c] ++ r) from hg).pre
          have hal := all_split (A := [c]) (B := r) ok
          refine ⟨.one c hgp h5 hal.1, hg.tail, hal.2, ?_⟩
          have e4 : (txtB ⟨3, baOf [c], 0⟩).length = (flat [c]).length := by simp only [txtB]; rw [if_neg (by decide), baOf_data]
          have := hgp.pos
          show (txtB ⟨3, baOf [c], 0⟩).length + 1 + 6 * (flat r).length ≤ 6 * (flat ([c] ++ r)).length
          rw [e4, flat_append, List.length_append]; omega
      · exact absurd h (by simp)
theorem tokT_ok : ∀ (n : Nat) (cs : List Ch) (acc : List TokT), cs.length ≤ n → GoodC cs → cs.all okCh = true → (∀ t ∈ acc, TokOk t) → ∀ m e, tokT cs acc = (some m, e) → ∃ l, m = l ++ [noTok] ∧ (∀ t ∈ l, TokOk t) ∧ wt l ≤ wt acc + 6 * (flat cs).length
  | n, [], acc, _, _, _, ha, m, e, h => by
    rw [tokT_nil] at h
    injection h with h _; injection h with h
    exact ⟨acc, h.symm, ha, by omega⟩
  | 0, c :: r, b, h, _, _, _, _, _, _ => by simp at h
  | n + 1, c :: r, acc, hlen, hg, ok, ha, m, e, h => by
    simp only [List.length_cons] at hlen
    have hfl : (flat (c :: r)).length = c.2.length + (flat r).length := by rw [flat_cons, List.length_append]
    rw [tokT_cons] at h
    split at h
    · obtain ⟨l, h1, h2, h3⟩ := tokT_ok n r acc (by omega) hg.tail (by rw [List.all_cons, Bool.and_eq_true] at ok; exact ok.2) ha m e h
      exact ⟨l, h1, h2, by omega⟩
    · split at h
      · rename_i h1
        have hd := dropWhile_lt (nB_hash h1) r
        simp only [List.length_cons] at hd
        have e1 := List.takeWhile_append_dropWhile (p := nB) (l := c :: r)
        have hg' := hg; have ok' := ok
        rw [← e1] at hg' ok'
        have e3 : (flat (c :: r)).length = (flat ((c :: r).takeWhile nB)).length + (flat ((c :: r).dropWhile nB)).length := by
          rw [← List.length_append, ← flat_append, e1]
        obtain ⟨l, h1, h2, h3⟩ := tokT_ok n _ acc (by omega) hg'.suf (all_split ok').2 ha m e h
        exact ⟨l, h1, h2, by omega⟩
      · cases hs : stepC (c :: r) with
        | err e => rw [hs] at h; exact absurd h (by simp)
        | tok t r' =>
          rw [hs] at h
          obtain ⟨g1, g2, g3, g4⟩ := stepC_ok hg ok hs
          have hl := stepC_len hs
          simp only [List.length_cons] at hl
          obtain ⟨l, h1, h2, h3⟩ := tokT_ok n r' (acc ++ [t]) (by omega) g2 g3 (fun x hx => (List.mem_append.1 hx).elim (ha x) fun hx => by simp at hx; subst hx; exact g1) m e h
          refine ⟨l, h1, h2, ?_⟩
          rw [wt_app, wt_one] at h3
          omega
end Go.Ax

namespace Go.Ax
open Go.Proofs Go.RowKit Go.Shelf Go.Lib
theorem join_ctr (g : GP) (t : Bool) (xs : List ByteArray) (sep : ByteArray) (hN : xs.length ≤ 140737488355328) (hlen : (Lib.join (xs.map (·.data.toList)) sep.data.toList).length ≤ 140737488355328) :
    Ctr (ax g).E 65 [.d (.sl t 1 (xs.map fun x => [.v (.string x)])), .d (.v (.string sep))] [] fun o => o = .ret (.d (.v (.string ⟨(Lib.join (xs.map (·.data.toList)) sep.data.toList).toArray⟩))) [] := by
  refine ⟨⟨_, Tryz.func65, rfl, by decide +kernel⟩, fun w Im ρ vs hG hIm hgl hsz hra hrel => ?_⟩
  have h0 := hra 0 (vs.getD 0 undef) _ (by simp at hsz; simp [Array.getD, hsz]) rfl
  have h1 := hra 1 (vs.getD 1 undef) _ (by simp at hsz; simp [Array.getD, hsz]) rfl
  have hvs : vs = #[vs.getD 0 undef, vs.getD 1 undef] := by
    simp at hsz
    apply Array.ext (by simp [hsz])
    intro i h1 h2
    simp at h2
    match i with
    | 0 => simp [Array.getD, hsz]
    | 1 => simp [Array.getD, hsz]
  have hsep := h1.v
  have hfin : ∀ e w', (e = .returned (.string ⟨(Lib.join (xs.map (·.data.toList)) sep.data.toList).toArray⟩) ∧ Below w.heap.size w w') → Ends (fun o => o = .ret (.d (.v (.string ⟨(Lib.join (xs.map (·.data.toList)) sep.data.toList).toArray⟩))) []) w Im ρ [] e w' := fun e w' ⟨he, hB⟩ => by
    subst he
    exact ⟨_, [], Im, _, rfl, RA.intv _ rfl, fun r hr => by simp [AV.ment] at hr, after_below hIm hB⟩
  rw [hvs, hsep]
  have hd := h0.d_inv
  generalize hv : vs.getD 0 undef = v at hd
  generalize hels : (xs.map fun x => [D.v (.string x)]) = els at hd
  cases hd with
  | nil _ _ a cap _ =>
    have hx : xs = [] := by simpa using hels
    subst hx
    exact (Tryz.strings_Join_none a cap sep w).mono fun e w' ⟨h1, h2⟩ => hfin e w' ⟨h1, by rw [h2]; exact Below.refl _ _⟩
  | sl _ _ _ b o cap f hss hb hle _ hcc hr =>
    subst hels
    have := Tryz.strings_Join b o cap xs sep w (fun j x hj => by
      have h1 : (xs.map fun x => [D.v (.string x)])[j]? = some [D.v (.string x)] := by simp [hj]
      obtain ⟨cs, t', fz, e1, e2⟩ := hcc j 0 _ _ h1 rfl
      have e3 := (hr j 0 _ _ h1 rfl).bool
      rw [e3] at e2
      have := cell_hp e1 e2
      simpa using this) (hIm b hb) hN (by simpa using hle) hlen
    simp only [List.length_map]
    exact this.mono hfin
end Go.Ax

namespace Go.Ax
open Go.Proofs Go.Lib
set_option maxRecDepth 10000
theorem join_snoc (sep x : List UInt8) : ∀ (l : List (List UInt8)), l ≠ [] → Lib.join (l ++ [x]) sep = Lib.join l sep ++ sep ++ x
  | [], h => absurd rfl h
  | [a], _ => by simp [Lib.join, List.intercalate]
  | a :: b :: l, _ => by
    have := join_snoc sep x (b :: l) (by simp)
    simp only [Lib.join, List.intercalate, List.cons_append, List.intersperse_cons_cons, List.flatten_cons] at this ⊢
    rw [this]; simp
theorem frz_whole (r sz n : Nat) (els : List (List D)) (h : n = els.length) : frz r sz els (.msl r n 0 n) = .d (.sl false sz els) := by
  subst h
  have h1 : Nat.ble (0 + els.length) els.length = true := Nat.ble_eq_true_of_le (by omega)
  have h2 : Nat.beq els.length els.length = true := by simp
  have h3 : Nat.beq r r = true := by simp
  show (match r.beq r, els.length.beq els.length, (0 + els.length).ble els.length with
      | true, true, true => AV.d (D.sl false sz (List.take els.length (List.drop 0 els)))
      | _, _, _ => AV.msl r els.length 0 els.length) = AV.d (D.sl false sz els)
  rw [h1, h2, h3]
  simp
end Go.Ax

namespace Go.Ax
open Go.Proofs Go.Lib
set_option maxRecDepth 10000
theorem i64_conv {n : Int} (h : 0 ≤ n) (h1 : n < 65536) : IntKind.i64.wrap n = ((n.toNat : Nat) : Int) := by rw [IntKind.wrap_i64]; omega
theorem digB_len {n : Nat} (h : n < 65536) : (digB n).size ≤ 5 := dec_len5 n (by omega)
theorem Ctr.fromNew {E : Env} {f : FuncId} {args : List AV} {post : AOut → Prop} {T : TypeId} (hT : BldT T) (h : Ctr E f args [(9000, Option.some (bldO ⟨#[]⟩))] post) : Ctr E f args [(9000, Option.some (.tvar T zB))] post := by
  refine ⟨h.1, fun w Im ρ vs hG hIm hgl hsz hra hrel => ?_⟩
  have hr2 : HRel w Im ρ [(9000, Option.some (bldO ⟨#[]⟩))] (fun _ => True) := by
    refine ⟨fun r o hr => ?_, fun r r' o o' l l' hr hr' hne => absurd ((lkH_one hr).1.trans (lkH_one hr').1.symm) hne⟩
    obtain ⟨rfl, rfl⟩ := lkH_one hr
    obtain ⟨l, hl, hro, hf⟩ := hrel.obj 9000 (.tvar T zB) rfl
    obtain ⟨h1, h2, b, ms, h4, h5, h6, h7⟩ := hro
    have h6 : ms.size = 2 := h6
    have hm0 : ms[0]? = Option.some (.pointer Option.none) := by
      have h0 : 0 < ms.size := by omega
      have := (h7 0 ms[0] _ (Array.getElem?_eq_getElem h0) rfl).bool
      rw [Array.getElem?_eq_getElem h0, this]
    have hm1 : ms[1]? = Option.some (.slice Option.none 0 0) := by
      have h0 : 1 < ms.size := by omega
      have := (h7 1 ms[1] _ (Array.getElem?_eq_getElem h0) rfl).bool
      rw [Array.getElem?_eq_getElem h0, this]
    exact ⟨l, hl, ⟨h1, ⟨b, h4⟩, Bld.keep, b, T, ms, h4, h5, h6, .inl ⟨rfl, hT, h2, hm0, hm1⟩⟩, hf⟩
  have hT' : ∀ k, TIn ρ [(9000, Option.some (bldO ⟨#[]⟩))] k → TIn ρ [(9000, Option.some (.tvar T zB))] k := fun k ⟨r, o, l, hr, q1, q2⟩ => by
    obtain ⟨rfl, rfl⟩ := lkH_one hr
    exact ⟨9000, _, l, rfl, q1, q2⟩
  have hA : ∀ {w' : World} {Im' : Nat → Prop} {ρ' : Nat → Option Loc} {ho : HL}, After w Im ρ [(9000, Option.some (bldO ⟨#[]⟩))] w' Im' ρ' ho → After w Im ρ [(9000, Option.some (.tvar T zB))] w' Im' ρ' ho := fun H =>
    ⟨⟨H.grows.size, H.grows.os, H.grows.tape, H.grows.output, fun k hk hn => H.grows.block k hk fun h => hn (hT' k h)⟩, H.im, fun k hk => by
      obtain ⟨p1, p2⟩ := H.imn k hk
      exact ⟨p1, p2.imp id fun h => h.imp id (hT' k)⟩, ⟨fun r o hr => by
      obtain ⟨l, q1, q2, q3⟩ := H.rel.obj r o hr
      exact ⟨l, q1, q2, fun b hb => by obtain ⟨k1, k2, k3⟩ := q3 b hb; exact ⟨k1, k2, k3.imp id (hT' b)⟩⟩, H.rel.dis⟩, fun r o hr l' hl' => by
      obtain ⟨rfl, rfl⟩ := lkH_one hr
      exact H.anc 9000 _ rfl l' hl', H.cl⟩
  refine (h.2 w Im ρ vs hG hIm hgl hsz hra hr2).mono fun e w' he => ?_
  cases e with
  | returned v => obtain ⟨res, ho, Im', ρ', h1, h2, h3, A⟩ := he; exact ⟨res, ho, Im', ρ', h1, h2, h3, hA A⟩
  | panicked ch => obtain ⟨ho, Im', ρ', h1, A⟩ := he; exact ⟨ho, Im', ρ', h1, hA A⟩
  | outgrown => exact he
theorem CallP.ends {E : Env} {k : Kn} {f : FuncId} {args : List AV} {s : St} {K : AV → HL → Prop} {KP : List PanicEntry → HL → Prop} {res : AV} {r : Nat} {ob : AObj} (hr : lkH r s.h = some ob) (h : Ctr E f args [(r, some ob)] fun o => o = .ret res []) (hk : K res ((r, none) :: s.h)) : CallP E k f args s K KP :=
  ⟨_, _, h, fun q o hq => by obtain ⟨rfl, rfl⟩ := lkH_one hq; exact hr, fun res' ho e => by
    injection e with e1 e2; subst e1; subst e2
    exact ⟨fun q o hq => by simp [lkH] at hq, hk⟩, fun ch ho e => by simp at e⟩
theorem write3 (g : GP) (bs s : ByteArray) (hs : bs.size + s.size ≤ 140737488355328) (h0 : s.size ≠ 0) : Ctr (ax g).E 47 [.ptr 3 0, .str s] [(3, some (bldO bs))] (fun o => o = .ret (.tup [.i64 s.size, .d (.v .nilIface)]) [(3, some (bldO (bs ++ s)))]) :=
  (write_ctr g bs s hs h0).swap 3 9000
theorem string3 (g : GP) (bs : ByteArray) : Ctr (ax g).E 51 [.ptr 3 0] [(3, some (bldO bs))] (fun o => o = .ret (.str bs) []) :=
  (bstring_ctr g bs).swap 3 9000
def dotB : ByteArray := ⟨#[32, 46, 10]⟩
def spB : ByteArray := ⟨#[32]⟩
def swB (b : ByteArray) (n : Int) : ByteArray := b ++ (spB ++ digB n.toNat)
theorem foldl_size {α : Type} (f : ByteArray → α → ByteArray) (k : Nat) : ∀ (l : List α) (b : ByteArray), (∀ x ∈ l, ∀ b, (f b x).size ≤ b.size + k) → (l.foldl f b).size ≤ b.size + k * l.length
  | [], b, _ => by simp
  | x :: l, b, h => by
    have h1 := foldl_size f k l (f b x) fun y hy => h y (List.mem_cons_of_mem _ hy)
    have h2 := h x (List.mem_cons_self ..) b
    simp only [List.foldl_cons, List.length_cons, Nat.mul_add, Nat.mul_one]
    omega
theorem swB_size {n : Int} (h : 0 ≤ n ∧ n < 65536) (b : ByteArray) : (swB b n).size ≤ b.size + 6 := by
  have := digB_len (n := n.toNat) (by omega)
  have h2 : spB.size = 1 := rfl
  simp only [swB, ByteArray.size_append]; omega
end Go.Ax

namespace Go.Ax
open Go.Proofs
set_option maxRecDepth 10000
def zero4 : List (List D) := [[.u16 0], [.u16 0], [.u16 0], [.u16 0]]
theorem any_ctr (g : GP) (a : D) (b c d : D) (e f : D) : Ctr (ax g).E 100 [.dagg [a, b, c, d, e, f]] [] (fun o => o = .ret (.dagg [.sl false 1 zero4, b, c, d, e, f]) []) := by
  refine Ctr.body (X := ax g) _ 6 [] [.cell 2 34] Tryz.func100 rfl rfl rfl rfl (by decide +kernel) rfl rfl ?_
  conv => whnf
  repeat' (first | (refine And.intro easyA ?_; conv => whnf) | (refine ifB_intro (fun hA => ?_) (fun hA => ?_) <;> (try rw [hA]) <;> (conv => whnf) <;> (first | replace hA := nrmA hA | replace hA := nrmB hA | replace hA := nrmC hA | replace hA := nrmD hA | replace hA := nrmE hA | replace hA := nrmF hA | skip) <;> (try simp only [List.length_map, cond_true, cond_false, Bool.not_eq_true', Bool.not_eq_false', beq_iff_eq, beq_eq_false_iff_ne, ne_eq] at hA)) | (rw [getD_map _ _ _ _ (by assumption)]; conv => whnf))
  refine ⟨⟨[], ?_⟩⟩
  conv => whnf
  repeat' (first | (refine And.intro easyA ?_; conv => whnf) | (refine ifB_intro (fun hA => ?_) (fun hA => ?_) <;> (try rw [hA]) <;> (conv => whnf) <;> (first | replace hA := nrmA hA | replace hA := nrmB hA | replace hA := nrmC hA | replace hA := nrmD hA | replace hA := nrmE hA | replace hA := nrmF hA | skip) <;> (try simp only [List.length_map, cond_true, cond_false, Bool.not_eq_true', Bool.not_eq_false', beq_iff_eq, beq_eq_false_iff_ne, ne_eq] at hA)) | (rw [getD_map _ _ _ _ (by assumption)]; conv => whnf))
  rfl
theorem digits6_ctr (g : GP) (hg : ∀ w, g.G w → PowG w) (n : Int) (h : 0 ≤ n ∧ n < 65536) : Ctr (ax g).E 48 [.d (.v (.int .u16 n))] [] (fun o => o = .ret (.str (digB n.toNat)) []) := by
  refine Ctr.body (X := ax g) _ 6 [] [.tmp 2] Tryz.func48 rfl rfl rfl rfl (by decide +kernel) rfl rfl ?_
  conv => whnf
  rw [i64_conv h.1 h.2]
  repeat' (first | (refine And.intro easyA ?_; conv => whnf) | (refine ifB_intro (fun hA => ?_) (fun hA => ?_) <;> (try rw [hA]) <;> (conv => whnf) <;> (first | replace hA := nrmA hA | replace hA := nrmB hA | replace hA := nrmC hA | replace hA := nrmD hA | replace hA := nrmE hA | replace hA := nrmF hA | skip) <;> (try simp only [List.length_map, cond_true, cond_false, Bool.not_eq_true', Bool.not_eq_false', beq_iff_eq, beq_eq_false_iff_ne, ne_eq] at hA)) | (refine CallP.det (itoa_ctr g hg _ (by omega)) ?_; conv => whnf) | (refine CallD.det (itoa_ctr g hg _ (by omega)) ?_; conv => whnf) | (rw [getD_map _ _ _ _ (by assumption)]; conv => whnf))
  refine ⟨⟨[], ?_⟩⟩
  conv => whnf
  rfl
theorem itoaI_ctr (g : GP) (hg : ∀ w, g.G w → PowG w) (n : Int) (h : 0 ≤ n ∧ n < 65536) : Ctr (ax g).E 64 [.i64 n] [] (fun o => o = .ret (.str (digB n.toNat)) []) := by
  have := itoa_ctr g hg n.toNat (by omega)
  rw [show ((n.toNat : Nat) : Int) = n by omega] at this
  exact this
def partB (f : Int) (sign : ByteArray) (n : Int) : ByteArray := ((⟨#[64]⟩ ++ digB f.toNat) ++ sign) ++ digB n.toNat
theorem digI_len {n : Int} (h : n < 65536) : (digB n.toNat).size ≤ 5 := digB_len (by omega)
theorem part_ctr (g : GP) (hg : ∀ w, g.G w → PowG w) (f : Int) (sign : ByteArray) (n : Int) (hf : 0 ≤ f ∧ f < 65536) (h : 0 ≤ n ∧ n < 65536) (hs : sign.size ≤ 10) : Ctr (ax g).E 106 [.i64 f, .str sign, .d (.v (.int .u16 n))] [] (fun o => o = .ret (.str (partB f sign n)) []) := by
  refine Ctr.body (X := ax g) _ 15 [] [.tmp 6] Tryz.func106 rfl rfl rfl rfl (by decide +kernel) rfl rfl ?_
  conv => whnf
  have h1 := digI_len hf.2
  have h2 := digI_len h.2
  repeat' (first | (refine And.intro easyA ?_; conv => whnf) | (refine ifB_intro (fun hA => ?_) (fun hA => ?_) <;> (try rw [hA]) <;> (conv => whnf) <;> (first | replace hA := nrmA hA | replace hA := nrmB hA | replace hA := nrmC hA | replace hA := nrmD hA | replace hA := nrmE hA | replace hA := nrmF hA | skip) <;> (try simp only [List.length_map, cond_true, cond_false, Bool.not_eq_true', Bool.not_eq_false', beq_iff_eq, beq_eq_false_iff_ne, ne_eq] at hA)) | (refine CallP.det (itoaI_ctr g hg f hf) ?_; conv => whnf) | (refine CallD.det (itoaI_ctr g hg f hf) ?_; conv => whnf) | (refine CallP.det (digits6_ctr g hg n h) ?_; conv => whnf) | (refine CallD.det (digits6_ctr g hg n h) ?_; conv => whnf) | (rw [getD_map _ _ _ _ (by assumption)]; conv => whnf))
  refine ⟨⟨[], ?_⟩⟩
  conv => whnf
  rfl
end Go.Ax
