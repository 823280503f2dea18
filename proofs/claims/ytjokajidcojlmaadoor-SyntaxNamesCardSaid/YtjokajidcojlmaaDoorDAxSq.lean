import Derived.Test.YtjokajidcojlmaaDoorDAxSk

/- Small texts with a name: their tokens, and what the parser makes of them. -/
namespace Go.Ax
open Go.Proofs Go.Lib
set_option maxRecDepth 100000

/-! ### Tokens -/
theorem tk_go {c : UInt8} {l r : List UInt8} {acc : List TokT} {t : TokT} (h0 : classF ((c.toNat : Nat) : Int) ≠ 0) (h1 : classF ((c.toNat : Nat) : Int) ≠ 1) (hs : stepC (lowC (c :: l)) = .tok t (lowC r)) : tokT (lowC (c :: l)) acc = tokT (lowC r) (acc ++ [t]) := by
  have e : lowC (c :: l) = (c.toNat, [c]) :: lowC l := rfl
  rw [e] at hs ⊢
  rw [tokT_cons, if_neg h0, if_neg h1, hs]
theorem tk_sp (l : List UInt8) (acc : List TokT) : tokT (lowC (32 :: l)) acc = tokT (lowC l) acc := by
  show tokT ((32, [32]) :: lowC l) acc = _
  rw [tokT_cons, if_pos (by decide)]
theorem tk_end (acc : List TokT) : tokT (lowC []) acc = (some (acc ++ [noTok]), 0) := rfl

def LowL (w : List UInt8) : Prop := ∀ b ∈ w, 97 ≤ b.toNat ∧ b.toNat ≤ 122
theorem letter_cls {n : Nat} (h : 97 ≤ n ∧ n ≤ 122) (bs : List UInt8) : classF (n : Int) = 2 ∧ wB (n, bs) = true := by
  have key : ∀ k : Fin 26, classF (((97 + k.val : Nat)) : Int) = 2 ∧ withinF (((97 + k.val : Nat)) : Int) = true := by decide +kernel
  have := key ⟨n - 97, by omega⟩
  rw [show 97 + (n - 97) = n from by omega] at this
  exact this
theorem take_word : ∀ {w r : List UInt8}, LowL w → headW (lowC r) = false → (lowC (w ++ r)).takeWhile wB = lowC w ∧ (lowC (w ++ r)).dropWhile wB = lowC r
  | [], r, _, hr => by
    cases r with
    | nil => exact ⟨rfl, rfl⟩
    | cons c r =>
      have hr : wB (c.toNat, [c]) = false := hr
      show List.takeWhile wB ((c.toNat, [c]) :: lowC r) = [] ∧ List.dropWhile wB ((c.toNat, [c]) :: lowC r) = (c.toNat, [c]) :: lowC r
      rw [List.takeWhile_cons, List.dropWhile_cons, hr]; exact ⟨rfl, rfl⟩
  | c :: w, r, hw, hr => by
    have h1 := (letter_cls (hw c (by simp)) [c]).2
    obtain ⟨a, b⟩ := take_word (w := w) (r := r) (fun x hx => hw x (by simp [hx])) hr
    show List.takeWhile wB ((c.toNat, [c]) :: lowC (w ++ r)) = (c.toNat, [c]) :: lowC w ∧ List.dropWhile wB ((c.toNat, [c]) :: lowC (w ++ r)) = _
    rw [List.takeWhile_cons, List.dropWhile_cons, h1, if_pos rfl, if_pos rfl, a, b]; exact ⟨rfl, rfl⟩
theorem lowC_len (w : List UInt8) : (lowC w).length = w.length := by simp [lowC]
theorem tk_word {w r : List UInt8} {acc : List TokT} (hn : w ≠ []) (hw : LowL w) (hl : w.length ≤ 20) (hr : headW (lowC r) = false) : tokT (lowC (w ++ r)) acc = tokT (lowC r) (acc ++ [W w]) := by
  obtain ⟨a, b⟩ := take_word hw hr
  match w, hn with
  | c :: w', _ =>
    have hc := (letter_cls (hw c (by simp)) [c]).1
    refine tk_go (c := c) (l := w' ++ r) (by rw [hc]; decide) (by rw [hc]; decide) ?_
    have e : lowC (c :: (w' ++ r)) = (c.toNat, [c]) :: lowC (w' ++ r) := rfl
    have a' : ((c.toNat, [c]) :: lowC (w' ++ r)).takeWhile wB = lowC (c :: w') := a
    have b' : ((c.toNat, [c]) :: lowC (w' ++ r)).dropWhile wB = lowC r := b
    rw [e]
    show (if classF ((c.toNat : Nat) : Int) = 2 then _ else _) = _
    rw [if_pos hc, a', b', lowC_len, if_neg (by omega), baOf, flat_low]
    rfl
/-- A digit, a blank behind it. -/
theorem tk_dig {d : Nat} (hd : d < 10) (r : List UInt8) (acc : List TokT) : tokT (lowC (UInt8.ofNat (48 + d) :: 32 :: r)) acc = tokT (lowC r) (acc ++ [Nm d]) := by
  have key : ∀ k : Fin 10, classF ((((UInt8.ofNat (48 + k.val)).toNat : Nat)) : Int) = 3 ∧ (UInt8.ofNat (48 + k.val)).toNat = 48 + k.val ∧ dB (48 + k.val, []) = true := by decide +kernel
  obtain ⟨h1, h2, h3⟩ := key ⟨d, hd⟩
  refine (tk_go (r := 32 :: r) (t := Nm d) (by rw [h1]; decide) (by rw [h1]; decide) ?_).trans (tk_sp _ _)
  have e : lowC (UInt8.ofNat (48 + d) :: 32 :: r) = ((UInt8.ofNat (48 + d)).toNat, [UInt8.ofNat (48 + d)]) :: (32, [32]) :: lowC r := rfl
  rw [e, h2]
  have h1' : classF ((48 + d : Nat) : Int) = 3 := by rw [← h2]; exact h1
  have h3' : dB (48 + d, [UInt8.ofNat (48 + d)]) = true := h3
  have t1 : List.takeWhile dB ((48 + d, [UInt8.ofNat (48 + d)]) :: (32, [32]) :: lowC r) = [(48 + d, [UInt8.ofNat (48 + d)])] := by
    rw [List.takeWhile_cons, h3', if_pos rfl, List.takeWhile_cons]; rfl
  have t2 : List.dropWhile dB ((48 + d, [UInt8.ofNat (48 + d)]) :: (32, [32]) :: lowC r) = (32, [32]) :: lowC r := by
    rw [List.dropWhile_cons, h3', if_pos rfl, List.dropWhile_cons]; rfl
  show (if classF ((48 + d : Nat) : Int) = 2 then _ else _) = _
  rw [if_neg (by rw [h1']; decide)]
  show (if classF ((48 + d : Nat) : Int) = 3 then _ else _) = _
  rw [if_pos h1', t1, t2]
  have : numC [(48 + d, [UInt8.ofNat (48 + d)])] 0 = some (d : Int) := by
    show (if 65535 < 10 * (0 : Int) + (((48 + d : Nat) : Int) - 48) then none else some (10 * (0 : Int) + (((48 + d : Nat) : Int) - 48))) = _
    rw [if_neg (by omega)]; congr 1; omega
  have hw32 : headW ((32, [32]) :: lowC r) = false := by show wB (32, [32]) = false; decide
  rw [hw32, if_neg (by simp), this]
  rfl

abbrev initL : List UInt8 := [105, 110, 105, 116]
abbrev letL : List UInt8 := [108, 101, 116]
abbrev policyL : List UInt8 := [112, 111, 108, 105, 99, 121]
abbrev dstL : List UInt8 := [100, 115, 116]
theorem tk_init (r : List UInt8) (acc : List TokT) : tokT (lowC (105 :: 110 :: 105 :: 116 :: 32 :: 48 :: 32 :: 46 :: 32 :: r)) acc = tokT (lowC r) (acc ++ [W initL, Nm 0, Sg [46]]) := by
  refine (tk_go (r := 32 :: 48 :: 32 :: 46 :: 32 :: r) (t := W initL) (by decide) (by decide) (by kernel_rfl)).trans ((tk_sp _ _).trans ?_)
  refine (tk_go (r := 32 :: 46 :: 32 :: r) (t := Nm 0) (by decide) (by decide) (by kernel_rfl)).trans ((tk_sp _ _).trans ?_)
  refine (tk_go (r := 32 :: r) (t := Sg [46]) (by decide) (by decide) (by kernel_rfl)).trans ((tk_sp _ _).trans ?_)
  simp
theorem tk_let {w : List UInt8} (hn : w ≠ []) (hw : LowL w) (hl : w.length ≤ 20) {d : Nat} (hd : d < 10) (r : List UInt8) (acc : List TokT) : tokT (lowC (108 :: 101 :: 116 :: 32 :: (w ++ 32 :: 61 :: 32 :: UInt8.ofNat (48 + d) :: 32 :: 46 :: 32 :: r))) acc = tokT (lowC r) (acc ++ [W letL, W w, Sg [61], Nm d, Sg [46]]) := by
  refine (tk_go (r := 32 :: (w ++ 32 :: 61 :: 32 :: UInt8.ofNat (48 + d) :: 32 :: 46 :: 32 :: r)) (t := W letL) (by decide) (by decide) (by kernel_rfl)).trans ((tk_sp _ _).trans ?_)
  refine (tk_word hn hw hl (r := 32 :: 61 :: 32 :: UInt8.ofNat (48 + d) :: 32 :: 46 :: 32 :: r) (by kernel_rfl)).trans ((tk_sp _ _).trans ?_)
  refine (tk_go (r := 32 :: UInt8.ofNat (48 + d) :: 32 :: 46 :: 32 :: r) (t := Sg [61]) (by decide) (by decide) (by kernel_rfl)).trans ((tk_sp _ _).trans ?_)
  refine (tk_dig hd _ _).trans ?_
  refine (tk_go (r := 32 :: r) (t := Sg [46]) (by decide) (by decide) (by kernel_rfl)).trans ((tk_sp _ _).trans ?_)
  simp
theorem sign_word {w : List UInt8} (hn : w ≠ []) (hw : LowL w) (r : List UInt8) : sign2 (lowC (61 :: (w ++ r))) = false := by
  match w, hn with
  | c :: w', _ =>
    have := hw c (by simp)
    show ((61 == 58 && c.toNat == 61) || (61 == 61 && c.toNat == 62)) = false
    have h62 : (c.toNat == 62) = false := by simp; omega
    rw [h62]; rfl
theorem tk_dst {w : List UInt8} (hn : w ≠ []) (hw : LowL w) (hl : w.length ≤ 20) (acc : List TokT) : tokT (lowC (112 :: 111 :: 108 :: 105 :: 99 :: 121 :: 32 :: 100 :: 115 :: 116 :: 61 :: (w ++ [32, 46]))) acc = (some (acc ++ [W policyL, W dstL, Sg [61], W w, Sg [46], noTok]), 0) := by
  refine (tk_go (r := 32 :: 100 :: 115 :: 116 :: 61 :: (w ++ [32, 46])) (t := W policyL) (by decide) (by decide) (by kernel_rfl)).trans ((tk_sp _ _).trans ?_)
  refine (tk_go (r := 61 :: (w ++ [32, 46])) (t := W dstL) (by decide) (by decide) (by kernel_rfl)).trans ?_
  refine (tk_go (r := w ++ [32, 46]) (t := Sg [61]) (by decide) (by decide) ?_).trans ?_
  · have e : lowC (61 :: (w ++ [32, 46])) = (61, [61]) :: lowC (w ++ [32, 46]) := rfl
    have h := sign_word hn hw [32, 46]
    rw [e] at h ⊢
    show (if sign2 _ then _ else _) = _
    rw [h]; rfl
  refine (tk_word hn hw hl (r := [32, 46]) (by kernel_rfl)).trans ((tk_sp _ _).trans ?_)
  refine (tk_go (r := []) (t := Sg [46]) (by decide) (by decide) (by kernel_rfl)).trans ((tk_end _).trans ?_)
  simp
theorem tk_id (acc : List TokT) : tokT (lowC [112, 111, 108, 105, 99, 121, 32, 105, 100, 32, 46]) acc = (some (acc ++ [W policyL, W [105, 100], Sg [46], noTok]), 0) := by
  refine (tk_go (r := 32 :: [105, 100, 32, 46]) (t := W policyL) (by decide) (by decide) (by kernel_rfl)).trans ((tk_sp _ _).trans ?_)
  refine (tk_go (r := 32 :: [46]) (t := W [105, 100]) (by decide) (by decide) (by kernel_rfl)).trans ((tk_sp _ _).trans ?_)
  refine (tk_go (r := []) (t := Sg [46]) (by decide) (by decide) (by kernel_rfl)).trans ((tk_end _).trans ?_)
  simp

end Go.Ax

/- What the parser makes of small texts with a name. -/
namespace Go.Ax
open Go.Proofs Go.Lib
set_option maxRecDepth 100000

/-- A parser: its tokens but the end. -/
def prs (l : List TokT) (ns : List (ByteArray × Int)) (u : Bool) : SP := ⟨l ++ [noTok], ⟨l, rfl⟩, ns, u, false⟩
section
variable {s : ByteArray} {t : TokT} {r : List TokT} {ns : List (ByteArray × Int)} {u : Bool}
theorem take_y (hk : t.kind = 1 ∨ t.kind = 3) (he : t.s.data.toList = s.data.toList) : takeS s (prs (t :: r) ns u) = (true, prs r ns u) := by
  have hp : peekS (prs (t :: r) ns u) = t.s := if_pos hk
  have hk0 : (hdT (prs (t :: r) ns u)).kind ≠ 0 := by show t.kind ≠ 0; omega
  unfold takeS
  rw [dif_pos ⟨by rw [hp]; exact he, hk0⟩]
  rfl
theorem take_n (hk : t.kind = 1 ∨ t.kind = 3) (he : ¬ t.s.data.toList = s.data.toList) : takeS s (prs (t :: r) ns u) = (false, prs (t :: r) ns u) := by
  have hp : peekS (prs (t :: r) ns u) = t.s := if_pos hk
  unfold takeS
  rw [dif_neg fun h => he (by rw [← hp]; exact h.1)]
theorem take_end (he : s.data.toList ≠ []) : takeS s (prs [] ns u) = (false, prs [] ns u) := by
  unfold takeS
  rw [dif_neg fun h => h.2 rfl]
theorem must_y (hk : t.kind = 1 ∨ t.kind = 3) (he : t.s.data.toList = s.data.toList) : mustS s (prs (t :: r) ns u) = some (prs r ns u) := by
  rw [mustS, take_y hk he]; rfl
theorem next_y (hk : t.kind ≠ 0) : nextS (prs (t :: r) ns u) = some (t, prs r ns u) := by
  have hk0 : (hdT (prs (t :: r) ns u)).kind ≠ 0 := hk
  rw [nextS, dif_neg hk0]; rfl
theorem num_y {n : Int} : numS (prs (Nm n :: r) ns u) = some (n, prs r ns u) := by
  rw [numS, next_y (by show (2 : Int) ≠ 0; decide)]; rfl
theorem name_y {w : List UInt8} (hr : reservedS ⟨w.toArray⟩ = false) : nameS (prs (W w :: r) ns u) = some (⟨w.toArray⟩, prs r ns u) := by
  rw [nameS, next_y (by show (1 : Int) ≠ 0; decide)]
  show (if (1 : Int) = 1 ∧ reservedS ⟨w.toArray⟩ = false then _ else _) = _
  rw [if_pos ⟨rfl, hr⟩]; rfl
theorem name_n {w : List UInt8} (hr : reservedS ⟨w.toArray⟩ = true) : nameS (prs (W w :: r) ns u) = none := by
  rw [nameS, next_y (by show (1 : Int) ≠ 0; decide)]
  show (if (1 : Int) = 1 ∧ reservedS ⟨w.toArray⟩ = false then _ else _) = _
  rw [if_neg (by rw [hr]; simp)]
theorem value_y {w : List UInt8} (hr : reservedS ⟨w.toArray⟩ = false) : valueS (prs (W w :: r) ns u) = some (nsGet ns ⟨w.toArray⟩, prs r ns (u || !nsHas ns ⟨w.toArray⟩)) := by
  have hk : ¬ (hdT (prs (W w :: r) ns u)).kind = 2 := by show ¬ (1 : Int) = 2; decide
  rw [valueS, if_neg hk, name_y hr]; rfl
theorem value_n {w : List UInt8} (hr : reservedS ⟨w.toArray⟩ = true) : valueS (prs (W w :: r) ns u) = none := by
  have hk : ¬ (hdT (prs (W w :: r) ns u)).kind = 2 := by show ¬ (1 : Int) = 2; decide
  rw [valueS, if_neg hk, name_n hr]
theorem prs_len : (prs r ns u).l.length = r.length + 1 := by simp [prs]

theorem nums_dot {n : Nat} (acc : List Int) : numsGo (n + 1) acc (prs (Sg [46] :: r) ns u) = some (acc, prs r ns u) := by
  rw [numsGo, take_y (s := dotC) (.inr rfl) rfl]; rfl
theorem head_y : headS (prs (W initL :: Nm 0 :: Sg [46] :: r) ns u) = (letsGo (r.length + 1) (prs r ns u)).bind fun b => some ([0], b) := by
  rw [headS, must_y (s := initC) (.inl rfl) rfl, Option.bind_some, num_y, Option.bind_some]
  rw [show (prs (Sg [46] :: r) ns u).l.length = r.length + 1 + 1 from by simp [prs]]
  rw [nums_dot, Option.bind_some, prs_len]
theorem lets_end {n : Nat} : letsGo (n + 1) (prs (W policyL :: r) ns u) = some (prs (W policyL :: r) ns u) := by
  rw [letsGo, take_n (s := letC) (.inl rfl) (by decide)]; rfl
theorem lets_y {n : Nat} {w : List UInt8} {d : Int} (hr : reservedS ⟨w.toArray⟩ = false) : letsGo (n + 1) (prs (W letL :: W w :: Sg [61] :: Nm d :: Sg [46] :: r) ns u) = letsGo n (prs r (nsPut ns ⟨w.toArray⟩ d) (u || nsHas ns ⟨w.toArray⟩)) := by
  rw [letsGo, take_y (s := letC) (.inl rfl) rfl, if_pos rfl, name_y hr, Option.bind_some, must_y (s := eqB) (.inr rfl) rfl, Option.bind_some, num_y, Option.bind_some, must_y (s := dotC) (.inr rfl) rfl, Option.bind_some]
  rfl
theorem lets_n {n : Nat} {w : List UInt8} {d : Int} (hr : reservedS ⟨w.toArray⟩ = true) : letsGo (n + 1) (prs (W letL :: W w :: Sg [61] :: Nm d :: Sg [46] :: r) ns u) = none := by
  rw [letsGo, take_y (s := letC) (.inl rfl) rfl, if_pos rfl, name_n hr]; rfl

theorem atom_dst {sum : SP → Option (PolT × SP)} {w : List UInt8} (hr : reservedS ⟨w.toArray⟩ = false) : atomS sum (prs (W dstL :: Sg [61] :: W w :: r) ns u) = some (.mk 2 3 (nsGet ns ⟨w.toArray⟩) [], prs r ns (u || !nsHas ns ⟨w.toArray⟩)) := by
  have h1 : takeS idB (prs (W dstL :: Sg [61] :: W w :: r) ns u) = _ := take_n (.inl rfl) (by decide)
  have h2 : takeS dropB (prs (W dstL :: Sg [61] :: W w :: r) ns u) = _ := take_n (.inl rfl) (by decide)
  have h3 : takeS lparB (prs (W dstL :: Sg [61] :: W w :: r) ns u) = _ := take_n (.inl rfl) (by decide)
  have h4 : ¬ (peekS (prs (W dstL :: Sg [61] :: W w :: r) ns u)).data.toList = [64] := by
    rw [show peekS (prs (W dstL :: Sg [61] :: W w :: r) ns u) = (W dstL).s from if_pos (.inl rfl)]; decide
  have h5 : fieldS (prs (W dstL :: Sg [61] :: W w :: r) ns u) = some (3, prs (Sg [61] :: W w :: r) ns u) := by
    rw [fieldS, next_y (by decide)]
    have : fieldIx (W dstL).s = some 3 := by decide +kernel
    show (if (1 : Int) = 1 ∧ (fieldIx (W dstL).s).isSome = true then some ((((fieldIx (W dstL).s).getD 0 : Nat) : Int), _) else none) = _
    rw [this]; rfl
  have h6 : takeS asB (prs (Sg [61] :: W w :: r) ns u) = _ := take_n (.inr rfl) (by decide)
  simp only [atomS, h1, h2, h3]
  simp only [Bool.false_eq_true, if_false]
  rw [if_neg h4, h5, Option.bind_some]
  simp only [h6, Bool.false_eq_true, if_false]
  rw [must_y (s := eqB) (.inr rfl) rfl, Option.bind_some, value_y hr]; rfl
theorem atom_dst_n {sum : SP → Option (PolT × SP)} {w : List UInt8} (hr : reservedS ⟨w.toArray⟩ = true) : atomS sum (prs (W dstL :: Sg [61] :: W w :: r) ns u) = none := by
  have h1 : takeS idB (prs (W dstL :: Sg [61] :: W w :: r) ns u) = _ := take_n (.inl rfl) (by decide)
  have h2 : takeS dropB (prs (W dstL :: Sg [61] :: W w :: r) ns u) = _ := take_n (.inl rfl) (by decide)
  have h3 : takeS lparB (prs (W dstL :: Sg [61] :: W w :: r) ns u) = _ := take_n (.inl rfl) (by decide)
  have h4 : ¬ (peekS (prs (W dstL :: Sg [61] :: W w :: r) ns u)).data.toList = [64] := by
    rw [show peekS (prs (W dstL :: Sg [61] :: W w :: r) ns u) = (W dstL).s from if_pos (.inl rfl)]; decide
  have h5 : fieldS (prs (W dstL :: Sg [61] :: W w :: r) ns u) = some (3, prs (Sg [61] :: W w :: r) ns u) := by
    rw [fieldS, next_y (by decide)]
    have : fieldIx (W dstL).s = some 3 := by decide +kernel
    show (if (1 : Int) = 1 ∧ (fieldIx (W dstL).s).isSome = true then some ((((fieldIx (W dstL).s).getD 0 : Nat) : Int), _) else none) = _
    rw [this]; rfl
  have h6 : takeS asB (prs (Sg [61] :: W w :: r) ns u) = _ := take_n (.inr rfl) (by decide)
  simp only [atomS, h1, h2, h3]
  simp only [Bool.false_eq_true, if_false]
  rw [if_neg h4, h5, Option.bind_some]
  simp only [h6, Bool.false_eq_true, if_false]
  rw [must_y (s := eqB) (.inr rfl) rfl, Option.bind_some, value_n hr]; rfl
theorem atom_id {sum : SP → Option (PolT × SP)} : atomS sum (prs (W [105, 100] :: r) ns u) = some (.mk 1 0 0 [], prs r ns u) := by
  have h1 : takeS idB (prs (W [105, 100] :: r) ns u) = _ := take_y (.inl rfl) rfl
  simp only [atomS, h1, if_true]

/-- A sum of one atom, a point behind it. -/
theorem sum_one {n : Nat} {p : SP} {x : PolT} {ns' : List (ByteArray × Int)} {u' : Bool} (hb : (takeS bangB p) = (false, p)) (ha : atomS (sumS n) p = some (x, prs [Sg [46]] ns' u')) : sumS (n + 1) p = some (x, prs [Sg [46]] ns' u') := by
  have h1 : unaryS (sumS n) (n + 1) p = some (x, prs [Sg [46]] ns' u') := by
    rw [unaryS, hb]
    simp only [Bool.false_eq_true, if_false]; exact ha
  have go : ∀ (sign : ByteArray) (one : SP → Option (PolT × SP)), ¬ [(46 : UInt8)] = sign.data.toList → one p = some (x, prs [Sg [46]] ns' u') → listS sign one p = some ([x], prs [Sg [46]] ns' u') := fun sign one hs h => by
    rw [listS, h]
    show listGo sign one ((prs [Sg [46]] ns' u').l.length + 1) [x] _ = _
    rw [listGo, take_n (.inr rfl) hs]; rfl
  have h2 : seqS (sumS n) (n + 1) p = some (x, prs [Sg [46]] ns' u') := by
    rw [seqS, go semiB _ (by decide) h1]; rfl
  rw [sumS, go plusB _ (by decide) h2]; rfl
theorem sum_none {n : Nat} {p : SP} (hb : (takeS bangB p) = (false, p)) (ha : atomS (sumS n) p = none) : sumS (n + 1) p = none := by
  have h1 : unaryS (sumS n) (n + 1) p = none := by
    rw [unaryS, hb]
    simp only [Bool.false_eq_true, if_false]; exact ha
  have h2 : seqS (sumS n) (n + 1) p = none := by rw [seqS, listS, h1]; rfl
  rw [sumS, listS, h2]; rfl
theorem body_one {i : List Int} {x : PolT} {ns' : List (ByteArray × Int)} {u' : Bool} (h : sumS (prs r ns u).l.length (prs r ns u) = some (x, prs [Sg [46]] ns' u')) : bodyS i (prs (W policyL :: r) ns u) = some (⟨i, x, []⟩, prs [] ns' u') := by
  rw [bodyS, must_y (s := policyC) (.inl rfl) rfl, Option.bind_some, h, Option.bind_some]
  show (mustS dotC (prs [Sg [46]] ns' u')).bind _ = _
  rw [must_y (s := dotC) (.inr rfl) rfl, Option.bind_some]
  have : rulesGo (prs [] ns' u').l.length [] (prs [] ns' u') = some ([], prs [] ns' u') := by
    rw [prs_len, rulesGo, take_end (by decide)]; rfl
  rw [this]; rfl
theorem body_none {i : List Int} (h : sumS (prs r ns u).l.length (prs r ns u) = none) : bodyS i (prs (W policyL :: r) ns u) = none := by
  rw [bodyS, must_y (s := policyC) (.inl rfl) rfl, Option.bind_some, h]; rfl
end

end Go.Ax

/- Small texts with a name, parsed. -/
namespace Go.Ax
open Go.Proofs Go.Lib
set_option maxRecDepth 100000

theorem FitP.of' {s : ByteArray} {l : List TokT} (h : tokensF vS s = (some (l ++ [noTok]), 0)) (h1 : ProgOk (sp0 l)) (h2 : ∀ x q, progS (sp0 l) = some (x, q) → SmallG x) : FitP s := by
  have key : ∀ l' e, tokensF vS s = (some (l' ++ [noTok]), e) → l' = l := fun l' e h' => by
    rw [h] at h'; injection h' with h' _; injection h' with h'
    exact (List.append_cancel_right h').symm
  refine ⟨fun l' e h' => ?_, fun l' e h' => ?_⟩
  · rw [key l' e h']; exact h1
  · rw [key l' e h']; exact h2
theorem sp0_prs (l : List TokT) : sp0 l = prs l [] false := rfl
theorem ok_head {p : SP} (h : headS p = none) : ProgOk p := fun i b hb => by rw [h] at hb; exact absurd hb (by simp)
theorem ok_body {p : SP} {i : List Int} {r : List TokT} {ns : List (ByteArray × Int)} {u : Bool} (h : headS p = some (i, prs (W policyL :: r) ns u))
    (hs : sumS (prs r ns u).l.length (prs r ns u) = none ∨ ∃ x ns' u', sumS (prs r ns u).l.length (prs r ns u) = some (x, prs [Sg [46]] ns' u')) : ProgOk p := fun i' b hb c hc s hss d hd => by
  rw [h] at hb; injection hb with hb; injection hb with _ hb; subst hb
  rw [must_y (s := policyC) (.inl rfl) rfl] at hc; injection hc with hc; subst hc
  rcases hs with hs | ⟨x, ns', u', hs⟩
  · rw [hs] at hss; exact absurd hss (by simp)
  · rw [hs] at hss; injection hss with hss; subst hss
    have hd : mustS dotC (prs [Sg [46]] ns' u') = some d := hd
    rw [must_y (s := dotC) (.inr rfl) rfl] at hd; injection hd with hd; subst hd
    rw [prs_len]
    intro ht
    rw [take_end (by decide)] at ht; exact absurd ht (by simp)

theorem small_one (f n : Int) (op : Int) : SmallG ⟨[0], .mk op f n [], []⟩ := ⟨by show 1 < _; omega, by show sizeP _ < _; rw [sizeP, sizesP]; omega, by show 0 < _; omega, by simp⟩
theorem prog_of {p : SP} {i : List Int} {b : SP} (h : headS p = some (i, b)) : progS p = bodyS i b := by rw [progS, h]; rfl
theorem prog_no {p : SP} (h : headS p = none) : progS p = none := by rw [progS, h]; rfl

section
variable {w : List UInt8} {d : Nat}
abbrev tokLet (w : List UInt8) (d : Nat) : List TokT := [W letL, W w, Sg [61], Nm d, Sg [46]]
def lA (w : List UInt8) (d : Nat) : List TokT := W initL :: Nm 0 :: Sg [46] :: W letL :: W w :: Sg [61] :: Nm d :: Sg [46] :: W policyL :: W dstL :: Sg [61] :: W w :: [Sg [46]]
def lB (w : List UInt8) (d : Nat) : List TokT := W initL :: Nm 0 :: Sg [46] :: W letL :: W w :: Sg [61] :: Nm d :: Sg [46] :: W letL :: W w :: Sg [61] :: Nm d :: Sg [46] :: W policyL :: W [105, 100] :: [Sg [46]]
def lC (w : List UInt8) : List TokT := W initL :: Nm 0 :: Sg [46] :: W policyL :: W dstL :: Sg [61] :: W w :: [Sg [46]]
theorem bang_n {l : List UInt8} {r : List TokT} {ns : List (ByteArray × Int)} {u : Bool} (h : ¬ l = [33]) : takeS bangB (prs (W l :: r) ns u) = (false, prs (W l :: r) ns u) := take_n (.inl rfl) h

theorem find_put (k : ByteArray) (n : Int) : nsHas (nsPut [] k n) k = true ∧ nsGet (nsPut [] k n) k = n := by
  have : nsPut [] k n = [(k, n)] := rfl
  rw [this]
  have hf : nsFind k [(k, n)] 0 = some 0 := by simp [nsFind]
  rw [nsHas, nsGet, hf]
  exact ⟨rfl, rfl⟩

theorem head_A (hr : reservedS ⟨w.toArray⟩ = false) : headS (sp0 (lA w d)) = some ([0], prs (W policyL :: W dstL :: Sg [61] :: W w :: [Sg [46]]) (nsPut [] ⟨w.toArray⟩ d) false) := by
  rw [sp0_prs, lA, head_y, lets_y hr]
  simp only [List.length_cons, List.length_nil]
  rw [lets_end]; rfl
theorem head_B (hr : reservedS ⟨w.toArray⟩ = false) : headS (sp0 (lB w d)) = some ([0], prs (W policyL :: W [105, 100] :: [Sg [46]]) (nsPut (nsPut [] ⟨w.toArray⟩ d) ⟨w.toArray⟩ d) true) := by
  rw [sp0_prs, lB, head_y, lets_y hr]
  simp only [List.length_cons, List.length_nil]
  rw [lets_y hr, lets_end, (find_put _ _).1, Option.bind_some, Bool.or_true]
theorem head_C : headS (sp0 (lC w)) = some ([0], prs (W policyL :: W dstL :: Sg [61] :: W w :: [Sg [46]]) [] false) := by
  rw [sp0_prs, lC, head_y]
  simp only [List.length_cons, List.length_nil]
  rw [lets_end]; rfl
theorem head_AB_n (hr : reservedS ⟨w.toArray⟩ = true) : headS (sp0 (lA w d)) = none ∧ headS (sp0 (lB w d)) = none := by
  constructor
  · rw [sp0_prs, lA, head_y, lets_n hr]; rfl
  · rw [sp0_prs, lB, head_y, lets_n hr]; rfl
theorem sum_dst {ns : List (ByteArray × Int)} {u : Bool} (hr : reservedS ⟨w.toArray⟩ = false) : sumS (prs (W dstL :: Sg [61] :: W w :: [Sg [46]]) ns u).l.length (prs (W dstL :: Sg [61] :: W w :: [Sg [46]]) ns u) = some (.mk 2 3 (nsGet ns ⟨w.toArray⟩) [], prs [Sg [46]] ns (u || !nsHas ns ⟨w.toArray⟩)) := by
  rw [prs_len]
  exact sum_one (bang_n (by decide)) (atom_dst hr)
theorem sum_dst_n {ns : List (ByteArray × Int)} {u : Bool} (hr : reservedS ⟨w.toArray⟩ = true) : sumS (prs (W dstL :: Sg [61] :: W w :: [Sg [46]]) ns u).l.length (prs (W dstL :: Sg [61] :: W w :: [Sg [46]]) ns u) = none := by
  rw [prs_len]
  exact sum_none (bang_n (by decide)) (atom_dst_n hr)
theorem sum_id {ns : List (ByteArray × Int)} {u : Bool} : sumS (prs (W [105, 100] :: [Sg [46]]) ns u).l.length (prs (W [105, 100] :: [Sg [46]]) ns u) = some (.mk 1 0 0 [], prs [Sg [46]] ns u) := by
  rw [prs_len]
  exact sum_one (bang_n (by decide)) atom_id

theorem prog_A (hr : reservedS ⟨w.toArray⟩ = false) : progS (sp0 (lA w d)) = some (⟨[0], .mk 2 3 d [], []⟩, prs [] (nsPut [] ⟨w.toArray⟩ d) false) := by
  rw [prog_of (head_A hr), body_one (sum_dst hr), (find_put _ _).1, (find_put _ _).2]; rfl
theorem prog_B (hr : reservedS ⟨w.toArray⟩ = false) : progS (sp0 (lB w d)) = some (⟨[0], .mk 1 0 0 [], []⟩, prs [] (nsPut (nsPut [] ⟨w.toArray⟩ d) ⟨w.toArray⟩ d) true) := by
  rw [prog_of (head_B hr), body_one sum_id]
theorem prog_C (hr : reservedS ⟨w.toArray⟩ = false) : progS (sp0 (lC w)) = some (⟨[0], .mk 2 3 0 [], []⟩, prs [] [] true) := by
  rw [prog_of head_C, body_one (sum_dst hr)]; rfl

theorem dst_check (n : Int) : checkP ⟨[0], .mk 2 3 n [], []⟩ = 0 := by
  have hf : formP 1 (.mk 2 3 n []) = true := by rw [formP]; simp
  unfold checkP
  rw [if_neg (by simp [sizeP, sizesP, depthP, depthsP]), if_neg (by simp; exact hf)]; rfl

/-- What the three texts are parsed as. -/
theorem names_A {s : ByteArray} (h : tokensF vS s = (some (lA w d ++ [noTok]), 0)) : FitP s ∧ parseS s = if reservedS ⟨w.toArray⟩ = true then (none, 10) else (some ⟨[0], .mk 2 3 d [], []⟩, 0) := by
  have hp : parseS s = resS (progS (sp0 (lA w d))) := by rw [parseS, h]; simp
  cases hr : reservedS ⟨w.toArray⟩ with
  | true =>
    obtain ⟨h1, _⟩ := head_AB_n (d := d) hr
    refine ⟨FitP.of' h (ok_head h1) fun x q hx => by rw [prog_no h1] at hx; exact absurd hx (by simp), ?_⟩
    rw [hp, prog_no h1]; rfl
  | false =>
    refine ⟨FitP.of' h (ok_body (head_A hr) (.inr ⟨_, _, _, sum_dst hr⟩)) fun x q hx => ?_, ?_⟩
    · rw [prog_A hr] at hx; injection hx with hx; injection hx with hx; subst hx; exact small_one _ _ _
    · rw [hp, prog_A hr]
      simp [resS, prs, dst_check]
theorem names_B {s : ByteArray} (h : tokensF vS s = (some (lB w d ++ [noTok]), 0)) : FitP s ∧ parseS s = if reservedS ⟨w.toArray⟩ = true then (none, 10) else (none, 12) := by
  have hp : parseS s = resS (progS (sp0 (lB w d))) := by rw [parseS, h]; simp
  cases hr : reservedS ⟨w.toArray⟩ with
  | true =>
    obtain ⟨_, h1⟩ := head_AB_n (d := d) hr
    refine ⟨FitP.of' h (ok_head h1) fun x q hx => by rw [prog_no h1] at hx; exact absurd hx (by simp), ?_⟩
    rw [hp, prog_no h1]; rfl
  | false =>
    refine ⟨FitP.of' h (ok_body (head_B hr) (.inr ⟨_, _, _, sum_id⟩)) fun x q hx => ?_, ?_⟩
    · rw [prog_B hr] at hx; injection hx with hx; injection hx with hx; subst hx; exact small_one _ _ _
    · rw [hp, prog_B hr]; rfl
theorem names_C {s : ByteArray} (h : tokensF vS s = (some (lC w ++ [noTok]), 0)) : FitP s ∧ parseS s = if reservedS ⟨w.toArray⟩ = true then (none, 10) else (none, 12) := by
  have hp : parseS s = resS (progS (sp0 (lC w))) := by rw [parseS, h]; simp
  cases hr : reservedS ⟨w.toArray⟩ with
  | true =>
    have h1 : progS (sp0 (lC w)) = none := by rw [prog_of head_C, body_none (sum_dst_n hr)]
    refine ⟨FitP.of' h (ok_body head_C (.inl (sum_dst_n hr))) fun x q hx => by rw [h1] at hx; exact absurd hx (by simp), ?_⟩
    rw [hp, h1]; rfl
  | false =>
    refine ⟨FitP.of' h (ok_body head_C (.inr ⟨_, _, _, sum_dst hr⟩)) fun x q hx => ?_, ?_⟩
    · rw [prog_C hr] at hx; injection hx with hx; injection hx with hx; subst hx; exact small_one _ _ _
    · rw [hp, prog_C hr]; rfl
end

/-! ### The texts' bytes -/
theorem all_low128 {w : List UInt8} (hw : LowL w) : w.all (fun b => decide (b.toNat < 128)) = true := by
  rw [List.all_eq_true]; intro b hb; have := hw b hb; simp; omega
theorem dig_low {d : Nat} (hd : d < 10) : (UInt8.ofNat (48 + d)).toNat < 128 := by
  simp only [UInt8.toNat_ofNat']; omega
theorem tok_A {w : List UInt8} (hn : w ≠ []) (hw : LowL w) (hl : w.length ≤ 20) {d : Nat} (hd : d < 10) {s : ByteArray}
    (hs : s.data.toList = 105 :: 110 :: 105 :: 116 :: 32 :: 48 :: 32 :: 46 :: 32 :: 108 :: 101 :: 116 :: 32 :: (w ++ 32 :: 61 :: 32 :: UInt8.ofNat (48 + d) :: 32 :: 46 :: 32 :: 112 :: 111 :: 108 :: 105 :: 99 :: 121 :: 32 :: 100 :: 115 :: 116 :: 61 :: (w ++ [32, 46]))) : tokensF vS s = (some (lA w d ++ [noTok]), 0) := by
  rw [tok_low (by rw [← len_data, hs]; simp; omega) (by rw [hs]; simp only [List.all_cons, List.all_append, all_low128 hw, List.all_nil]; simp; have := dig_low hd; simpa using this), hs, tk_init, tk_let hn hw hl hd, tk_dst hn hw hl]
  simp [lA]
theorem tok_B {w : List UInt8} (hn : w ≠ []) (hw : LowL w) (hl : w.length ≤ 20) {d : Nat} (hd : d < 10) {s : ByteArray}
    (hs : s.data.toList = 105 :: 110 :: 105 :: 116 :: 32 :: 48 :: 32 :: 46 :: 32 :: 108 :: 101 :: 116 :: 32 :: (w ++ 32 :: 61 :: 32 :: UInt8.ofNat (48 + d) :: 32 :: 46 :: 32 :: 108 :: 101 :: 116 :: 32 :: (w ++ 32 :: 61 :: 32 :: UInt8.ofNat (48 + d) :: 32 :: 46 :: 32 :: [112, 111, 108, 105, 99, 121, 32, 105, 100, 32, 46]))) : tokensF vS s = (some (lB w d ++ [noTok]), 0) := by
  rw [tok_low (by rw [← len_data, hs]; simp; omega) (by rw [hs]; simp only [List.all_cons, List.all_append, all_low128 hw, List.all_nil]; simp; have := dig_low hd; simpa using this), hs, tk_init, tk_let hn hw hl hd, tk_let hn hw hl hd, tk_id]
  simp [lB]
theorem tok_C {w : List UInt8} (hn : w ≠ []) (hw : LowL w) (hl : w.length ≤ 20) {s : ByteArray}
    (hs : s.data.toList = 105 :: 110 :: 105 :: 116 :: 32 :: 48 :: 32 :: 46 :: 32 :: 112 :: 111 :: 108 :: 105 :: 99 :: 121 :: 32 :: 100 :: 115 :: 116 :: 61 :: (w ++ [32, 46])) : tokensF vS s = (some (lC w ++ [noTok]), 0) := by
  rw [tok_low (by rw [← len_data, hs]; simp; omega) (by rw [hs]; simp only [List.all_cons, List.all_append, all_low128 hw, List.all_nil]; simp), hs, tk_init, tk_dst hn hw hl]
  simp [lC]

end Go.Ax
