/- What the card of this claim stands on, or the card itself: for every input, as the given row says. -/
import Derived.Lib.Index
import Derived.Lib.ItoaNum
import Derived.Lib.Join
import Derived.RangeFuncRecord
import Derived.Lib.RuneCount
import Derived.Lib.ValidLaws
import Derived.Test.YtdobclfcondfcaaGreatDoorPA05
import Derived.Test.YtdobclfcondfcaaGreatDoorPA06

namespace Go.Ax
open Go.Proofs
set_option maxRecDepth 10000
theorem getD_map {α β : Type} (f : α → β) (l : List α) (i : Nat) (d : β) (h : i < l.length) : (l.map f).getD (i : Int).toNat d = f l[i] := by
  simp [List.getD, h]
theorem getD_map0 {α β : Type} (f : α → β) (l : List α) (i : Nat) (d : β) (h : i < l.length) : (l.map f).getD (0 + (i : Int).toNat) d = f l[i] := by
  simp [List.getD, h]
end Go.Ax

namespace Go.Ax
open Go.Proofs Go.Lib
set_option maxRecDepth 10000
def splitL (c : UInt8) : List UInt8 → List (List UInt8)
  | [] => [[]]
  | b :: r => if c = b then [] :: splitL c r else match splitL c r with
    | [] => [[b]]
    | p :: ps => (b :: p) :: ps
theorem splitL_ne (c : UInt8) : ∀ l, splitL c l ≠ []
  | [] => by simp [splitL]
  | b :: r => by
    rw [splitL]
    split
    · simp
    · split <;> simp
theorem index_one (c : UInt8) : ∀ l : List UInt8, (index l [c] = -1 ∧ splitL c l = [l]) ∨ ∃ n : Nat, index l [c] = n ∧ n < l.length ∧ splitL c l = l.take n :: splitL c (l.drop (n + 1))
  | [] => .inl ⟨rfl, rfl⟩
  | b :: r => by
    rw [index, splitL]
    by_cases h : c = b
    · subst h
      right
      exact ⟨0, by simp, by simp, by simp⟩
    · have hp : [c].isPrefixOf (b :: r) = false := by simp [List.isPrefixOf, h]
      rw [hp, if_neg h]
      simp only [Bool.false_eq_true, if_false]
      rcases index_one c r with ⟨h1, h2⟩ | ⟨n, h1, h2, h3⟩
      · left
        rw [h1, h2]; exact ⟨rfl, rfl⟩
      · right
        rw [h1, h3]
        have hn : ((n : Int) == -1) = false := by rw [beq_eq_false_iff_ne]; omega
        refine ⟨n + 1, ?_, by simp; omega, by simp⟩
        simp only [hn, Bool.false_eq_true, if_false]; rfl
def baL (l : List UInt8) : ByteArray := ⟨l.toArray⟩
theorem sub_take {s : ByteArray} {n : Nat} (h : n ≤ s.size) : s.extract 0 n = baL (s.data.toList.take n) := by
  apply ByteArray.ext
  rw [baL, ByteArray.data_extract]
  apply Array.ext'
  rw [Array.toList_extract, List.extract_eq_take_drop, List.drop_zero, Nat.sub_zero]
theorem sub_drop {s : ByteArray} {n : Nat} : s.extract n s.size = baL (s.data.toList.drop n) := by
  apply ByteArray.ext
  rw [baL, ByteArray.data_extract]
  apply Array.ext'
  rw [Array.toList_extract, List.extract_eq_take_drop, List.take_of_length_le (by rw [List.length_drop, show s.data.toList.length = s.size from by rw [Array.length_toList]; rfl]; omega)]
end Go.Ax

namespace Go.Ax
open Go.Proofs Go.Lib
set_option maxRecDepth 10000
def digB (n : Nat) : ByteArray := ⟨(decDigits n).toArray⟩
theorem u8_digit (n : Nat) (h : n < 10) : IntKind.u8.wrap (IntKind.i64.wrap (48 + (n : Int))) = ((48 + n : Nat) : Int) := by
  rw [i64_wrap (by omega) (by omega), IntKind.wrap_u8]; omega
theorem i64_quo (n k : Nat) (h : n < 2 ^ 62) : IntKind.i64.wrap ((n : Int).tdiv k) = ((n / k : Nat) : Int) := by
  rw [← Int.ofNat_tdiv]
  have h1 := Nat.div_le_self n k
  generalize n / k = q at h1 ⊢
  exact i64_wrap (by omega) (by omega)
theorem digB_small (n : Nat) (h : n < 10) : digB n = bytesOf [[.v (.int .u8 ((48 + n : Nat) : Int))]] := by
  rw [digB, decDigits_one h]; rfl
theorem digB_big (n : Nat) (h : ¬ n < 10) : digB n = digB (n / 10) ++ bytesOf [[.v (.int .u8 ((48 + n % 10 : Nat) : Int))]] := by
  rw [digB, decDigits, dif_neg h, digB]
  apply ByteArray.ext
  rw [ByteArray.data_append]
  have e : UInt8.ofNat (((48 + n % 10 : Nat) : Int).toNat) = UInt8.ofNat (48 + n % 10) := by rw [Int.toNat_natCast]
  have e2 : (bytesOf [[.v (.int .u8 ((48 + n % 10 : Nat) : Int))]]).data = #[UInt8.ofNat (((48 + n % 10 : Nat) : Int).toNat)] := rfl
  rw [e2, e]
  simp
theorem dec_len_le (u : Nat) : (decDigits u).length ≤ u + 1 := by
  induction u using Nat.strongRecOn with
  | _ u ih =>
    rw [decDigits]
    split
    · simp
    · have := ih (u / 10) (by omega)
      rw [List.length_append]; simp; omega
theorem digB_size (n : Nat) : (digB n).size ≤ n + 1 := dec_len_le n
theorem digits_ctr (g : GP) : ∀ n : Nat, n < 2 ^ 62 → Ctr (ax g).E 66 [.i64 n] [] (fun o => o = .ret (.str (digB n)) []) := by
  intro n
  induction n using Nat.strongRecOn with
  | _ n ih =>
    intro hn
    refine Ctr.body (X := ax g) _ 20 [] [.tmp 2] Tryz.func66 rfl rfl rfl rfl (by decide +kernel) rfl rfl ?_
    conv => whnf
    refine ifB_intro (fun h => ?_) (fun h => ?_)
    · have h : n < 10 := by first | (have h0 := of_decide_eq_true h; omega) | (have h0 := of_decide_eq_false h; omega) | (have h0 := h; simp at h0; omega) | (have h0 := h; simp at h0; exact h0)
      conv => whnf
      repeat (refine And.intro (by first | exact rfl | decide | exact Nat.le_of_ble_eq_true rfl | exact ⟨_, rfl⟩ | exact ⟨_, _, rfl⟩ | exact Nat.le_refl _ | exact Int.le_refl _ | omega | (simp only [List.length_map]; omega)) ?_; conv => whnf)
      refine And.intro (fun q hq => ⟨_, by simpa using hq⟩) ?_
      conv => whnf
      refine ⟨⟨[], ?_⟩⟩
      conv => whnf
      rw [u8_digit n h, ← digB_small n h]
    · have h : ¬ n < 10 := by first | (have h0 := of_decide_eq_true h; omega) | (have h0 := of_decide_eq_false h; omega) | (have h0 := h; simp at h0; omega) | (have h0 := h; simp at h0; exact h0)
      conv => whnf
      refine DrawP.intro (X := ax g) (id := 3) B66_3 (by kernel_rfl) (by decide +kernel) ?_
      conv => whnf
      repeat (refine And.intro (by first | exact rfl | decide | exact Nat.le_of_ble_eq_true rfl | exact ⟨_, rfl⟩ | exact ⟨_, _, rfl⟩ | exact Nat.le_refl _ | exact Int.le_refl _ | omega | (simp only [List.length_map]; omega)) ?_; conv => whnf)
      refine CallD.arg (args' := [.i64 ((n / 10 : Nat) : Int)]) ?_ (CallD.det (ih (n / 10) (by omega) (by omega)) ?_)
      · exact congrArg (fun x => [AV.i64 x]) (i64_quo n 10 hn)
      conv => whnf
      repeat (refine And.intro (by first | exact rfl | decide | exact Nat.le_of_ble_eq_true rfl | exact ⟨_, rfl⟩ | exact ⟨_, _, rfl⟩ | exact Nat.le_refl _ | exact Int.le_refl _ | omega | (simp only [List.length_map]; omega)) ?_; conv => whnf)
      refine And.intro (fun q hq => ⟨_, by simpa using hq⟩) ?_
      conv => whnf
      refine And.intro (by have := digB_size (n / 10); have := Nat.div_le_self n 10; show (digB (n / 10)).size + 1 ≤ _; omega) ?_
      conv => whnf
      refine ⟨⟨[], ?_⟩⟩
      conv => whnf
      rw [show (n : Int).tmod 10 = ((n % 10 : Nat) : Int) from by rw [Int.ofNat_tmod]; rfl, u8_digit _ (by omega)]
      rw [digB_big n h]
end Go.Ax

namespace Go.Ax
inductive Glob {α β : Type} (many : α → Bool) (fits : α → β → Bool) : List α → List β → Prop where
  | nil : Glob many fits [] []
  | one {w : α} {q : β} {ws : List α} {l : List β} : many w = false → fits w q = true → Glob many fits ws l → Glob many fits (w :: ws) (q :: l)
  | star {w : α} {ws : List α} (p : List β) {l : List β} : many w = true → Glob many fits ws l → Glob many fits (w :: ws) (p ++ l)
inductive Seg {α β : Type} (many : α → Bool) (fits : α → β → Bool) : List α → List β → Prop where
  | nil : Seg many fits [] []
  | cons {w : α} {q : β} {ws : List α} {l : List β} : many w = false → fits w q = true → Seg many fits ws l → Seg many fits (w :: ws) (q :: l)
section
variable {α β : Type} {many : α → Bool} {fits : α → β → Bool}
theorem Glob.nil_iff {l : List β} : Glob many fits [] l ↔ l = [] :=
  ⟨fun h => by cases h; rfl, fun h => by subst h; exact .nil⟩
theorem Glob.one_iff {w : α} {ws : List α} {l : List β} (h : many w = false) : Glob many fits (w :: ws) l ↔ ∃ q r, l = q :: r ∧ fits w q = true ∧ Glob many fits ws r := by
  constructor
  · intro g
    cases g with
    | one _ h2 h3 => exact ⟨_, _, rfl, h2, h3⟩
    | star p h2 _ => rw [h] at h2; exact absurd h2 (by decide)
  · rintro ⟨q, r, rfl, h2, h3⟩
    exact .one h h2 h3
theorem Glob.star_iff {w : α} {ws : List α} {l : List β} (h : many w = true) : Glob many fits (w :: ws) l ↔ ∃ p r, l = p ++ r ∧ Glob many fits ws r := by
  constructor
  · intro g
    cases g with
    | one h2 _ _ => rw [h] at h2; exact absurd h2 (by decide)
    | star p _ h3 => exact ⟨p, _, rfl, h3⟩
  · rintro ⟨p, r, rfl, h3⟩
    exact .star p h h3
theorem Glob.more {w : α} {ws : List α} {l : List β} (h : many w = true) (s : List β) (g : Glob many fits (w :: ws) l) : Glob many fits (w :: ws) (s ++ l) := by
  obtain ⟨p, r, rfl, g2⟩ := (Glob.star_iff h).1 g
  rw [← List.append_assoc]
  exact .star _ h g2
theorem Seg.len {B : List α} {Y : List β} (h : Seg many fits B Y) : B.length = Y.length := by
  induction h with
  | nil => rfl
  | cons _ _ _ ih => simp [ih]
theorem Seg.one {B : List α} {Y : List β} (h : Seg many fits B Y) : ∀ w ∈ B, many w = false := by
  induction h with
  | nil => intro w hw; cases hw
  | cons h1 _ _ ih => 
    intro w hw
    rcases List.mem_cons.1 hw with e | hw
    · rw [e]; exact h1
    · exact ih w hw
theorem Seg.snoc {B : List α} {Y : List β} {w : α} {q : β} (h : Seg many fits B Y) (h1 : many w = false) (h2 : fits w q = true) : Seg many fits (B ++ [w]) (Y ++ [q]) := by
  induction h with
  | nil => exact .cons h1 h2 .nil
  | cons a b _ ih => exact .cons a b ih
theorem Seg.iff {B C : List α} {Y Z : List β} (h : Seg many fits B Y) : Glob many fits (B ++ C) (Y ++ Z) ↔ Glob many fits C Z := by
  induction h with
  | nil => exact Iff.rfl
  | cons a b _ ih =>
    rw [List.cons_append, List.cons_append, Glob.one_iff a]
    constructor
    · rintro ⟨q, r, e, _, g⟩
      injection e with _ e
      subst e
      exact ih.1 g
    · intro g
      exact ⟨_, _, rfl, b, ih.2 g⟩
theorem Glob.ones {C : List α} : ∀ (B : List α) {l : List β}, (∀ w ∈ B, many w = false) → Glob many fits (B ++ C) l → ∃ p r, l = p ++ r ∧ p.length = B.length ∧ Glob many fits C r
  | [], l, _, g => ⟨[], l, rfl, rfl, g⟩
  | b :: B, l, h, g => by
    rw [List.cons_append, Glob.one_iff (h b (by simp))] at g
    obtain ⟨q, r, rfl, _, g2⟩ := g
    obtain ⟨p, s, rfl, hp, g3⟩ := Glob.ones B (fun w hw => h w (by simp [hw])) g2
    exact ⟨q :: p, s, rfl, by simp [hp], g3⟩
inductive Greedy (many : α → Bool) (fits : α → β → Bool) (W : List α) (L : List β) : Nat → Nat → Option (Nat × Nat) → Prop where
  | free {A C : List α} {X Z : List β} : W = A ++ C → L = X ++ Z → (Glob many fits W L ↔ Glob many fits C Z) → Greedy many fits W L A.length X.length none
  | held {A B C : List α} {X Y Z : List β} {w : α} : W = A ++ w :: (B ++ C) → L = X ++ (Y ++ Z) → many w = true → Seg many fits B Y → (Glob many fits W L ↔ Glob many fits (w :: (B ++ C)) (Y ++ Z)) → Greedy many fits W L (A.length + 1 + B.length) (X.length + Y.length) (some (A.length, X.length))
theorem Greedy.start (W : List α) (L : List β) : Greedy many fits W L 0 0 none := .free (A := []) (X := []) rfl rfl Iff.rfl
theorem Greedy.bnd {W : List α} {L : List β} {i k : Nat} {o : Option (Nat × Nat)} (h : Greedy many fits W L i k o) : i ≤ W.length ∧ k ≤ L.length := by
  cases h with
  | free h1 h2 _ => subst h1; subst h2; simp
  | held h1 h2 _ _ _ => subst h1; subst h2; simp; omega
theorem Greedy.back {W : List α} {L : List β} {i k b f : Nat} (h : Greedy many fits W L i k (some (b, f))) : b < i ∧ f ≤ k ∧ i = b + 1 + (k - f) := by
  cases h with
  | held h1 h2 _ hs _ => have := hs.len; omega
theorem get_mid {γ : Type} {W A D : List γ} {c : γ} {i : Nat} (h : i < W.length) (hW : W = A ++ c :: D) (e : i = A.length) : W[i] = c := by
  subst hW; subst e
  rw [List.getElem_eq_iff]
  simp
theorem mid_of {γ : Type} {W A C : List γ} {i : Nat} (h : i < W.length) (hW : W = A ++ C) (e : i = A.length) : ∃ c D, C = c :: D := by
  subst hW; subst e
  cases C with
  | nil => simp at h
  | cons c D => exact ⟨c, D, rfl⟩
theorem Greedy.star {W : List α} {L : List β} {i k : Nat} {o : Option (Nat × Nat)} (h : Greedy many fits W L i k o) (hi : i < W.length) (hm : many W[i] = true) : Greedy many fits W L (i + 1) k (some (i, k)) := by
  cases h with
  | @free A C X Z h1 h2 h3 =>
    subst h1; subst h2
    obtain ⟨c, D, rfl⟩ := mid_of hi rfl rfl
    rw [get_mid hi rfl rfl] at hm
    exact .held (A := A) (B := []) (C := D) (X := X) (Y := []) (Z := Z) rfl rfl hm .nil h3
  | @held A B C X Y Z w h1 h2 hw hs h3 =>
    subst h1; subst h2
    obtain ⟨c, D, rfl⟩ := mid_of hi (A := A ++ w :: B) (C := C) (by simp) (by simp; omega)
    rw [get_mid hi (A := A ++ w :: B) (D := D) (c := c) (by simp) (by simp; omega)] at hm
    have key : Glob many fits (w :: (B ++ c :: D)) (Y ++ Z) ↔ Glob many fits (c :: D) Z := by
      constructor
      · intro g
        obtain ⟨p, r, e, g2⟩ := (Glob.star_iff hw).1 g
        obtain ⟨p2, r2, rfl, hp, g3⟩ := Glob.ones B hs.one g2
        have hl := hs.len
        rw [← List.append_assoc] at e
        obtain ⟨s, _, hs2⟩ : ∃ s, p ++ p2 = Y ++ s ∧ Z = s ++ r2 := by
          rcases List.append_eq_append_iff.1 e with ⟨a, h1, h2⟩ | ⟨a, h1, h2⟩
          · exact ⟨a, h1, h2⟩
          · have : a = [] := by
              have := congrArg List.length h1
              simp at this
              exact List.eq_nil_of_length_eq_zero (by omega)
            subst this
            exact ⟨[], by simpa using h1.symm, by simpa using h2.symm⟩
        rw [hs2]
        exact Glob.more hm s g3
      · intro g
        exact .star [] hw (hs.iff.2 g)
    have := Greedy.held (many := many) (fits := fits) (W := A ++ w :: (B ++ c :: D)) (L := X ++ (Y ++ Z)) (A := A ++ w :: B) (B := []) (C := D) (X := X ++ Y) (Y := []) (Z := Z) (w := c) (by simp) (by simp) hm .nil (h3.trans key)
    simpa [Nat.add_assoc, Nat.add_comm, Nat.add_left_comm] using this
theorem Greedy.next {W : List α} {L : List β} {i k : Nat} {o : Option (Nat × Nat)} (h : Greedy many fits W L i k o) (hi : i < W.length) (hk : k < L.length) (hm : many W[i] = false) (hf : fits W[i] L[k] = true) : Greedy many fits W L (i + 1) (k + 1) o := by
  cases h with
  | @free A C X Z h1 h2 h3 =>
    subst h1; subst h2
    obtain ⟨c, D, rfl⟩ := mid_of hi rfl rfl
    obtain ⟨q, T, rfl⟩ := mid_of hk rfl rfl
    rw [get_mid hi rfl rfl] at hm; rw [get_mid hi rfl rfl, get_mid hk rfl rfl] at hf
    have := Greedy.free (many := many) (fits := fits) (W := A ++ c :: D) (L := X ++ q :: T) (A := A ++ [c]) (C := D) (X := X ++ [q]) (Z := T) (by simp) (by simp) (h3.trans ⟨fun g => by
      obtain ⟨_, _, e, _, g2⟩ := (Glob.one_iff hm).1 g
      injection e with _ e
      subst e
      exact g2, fun g => .one hm hf g⟩)
    simpa using this
  | @held A B C X Y Z w h1 h2 hw hs h3 =>
    subst h1; subst h2
    obtain ⟨c, D, rfl⟩ := mid_of hi (A := A ++ w :: B) (C := C) (by simp) (by simp; omega)
    obtain ⟨q, T, rfl⟩ := mid_of hk (A := X ++ Y) (C := Z) (by simp) (by simp)
    have e3 := get_mid hi (A := A ++ w :: B) (D := D) (c := c) (by simp) (by simp; omega)
    have e4 := get_mid hk (A := X ++ Y) (D := T) (c := q) (by simp) (by simp)
    rw [e3] at hm; rw [e3, e4] at hf
    have := Greedy.held (many := many) (fits := fits) (W := A ++ w :: (B ++ c :: D)) (L := X ++ (Y ++ q :: T)) (A := A) (B := B ++ [c]) (C := D) (X := X) (Y := Y ++ [q]) (Z := T) (w := w) (by simp) (by simp) hw (hs.snoc hm hf) (by simpa using h3)
    simpa [Nat.add_assoc] using this
theorem Greedy.again {W : List α} {L : List β} {i k b f : Nat} (h : Greedy many fits W L i k (some (b, f))) (hk : k < L.length) (hn : ∀ hi : i < W.length, many W[i] = false ∧ fits W[i] L[k] = false) : Greedy many fits W L (b + 1) (f + 1) (some (b, f + 1)) := by
  cases h with
  | @held A B C X Y Z w h1 h2 hw hs h3 =>
    subst h1; subst h2
    obtain ⟨q, T, rfl⟩ := mid_of hk (A := X ++ Y) (C := Z) (by simp) (by simp)
    have e4 := get_mid hk (A := X ++ Y) (D := T) (c := q) (by simp) (by simp)
    have hno : ¬ Glob many fits C (q :: T) := by
      intro g
      cases C with
      | nil => cases g
      | cons c D =>
        have hi : A.length + 1 + B.length < (A ++ w :: (B ++ c :: D)).length := by simp; omega
        have e3 := get_mid hi (A := A ++ w :: B) (D := D) (c := c) (by simp) (by simp; omega)
        obtain ⟨n1, n2⟩ := hn hi
        rw [e3] at n1; rw [e3, e4] at n2
        obtain ⟨_, _, e, g1, _⟩ := (Glob.one_iff n1).1 g
        injection e with e _
        subst e
        rw [n2] at g1
        exact absurd g1 (by decide)
    obtain ⟨y, R, hy⟩ : ∃ y R, Y ++ q :: T = y :: R := by
      cases Y with
      | nil => exact ⟨_, _, rfl⟩
      | cons y Y => exact ⟨_, _, rfl⟩
    have key : Glob many fits (w :: (B ++ C)) (Y ++ q :: T) ↔ Glob many fits (w :: (B ++ C)) R := by
      constructor
      · intro g
        obtain ⟨p, r, e, g2⟩ := (Glob.star_iff hw).1 g
        cases p with
        | nil =>
          rw [List.nil_append] at e
          rw [← e] at g2
          exact absurd (hs.iff.1 g2) hno
        | cons y2 p =>
          rw [hy] at e
          injection e with _ e
          rw [e]
          exact .star p hw g2
      · intro g
        rw [hy]
        exact Glob.more hw [y] g
    have := Greedy.held (many := many) (fits := fits) (W := A ++ w :: (B ++ C)) (L := X ++ (Y ++ q :: T)) (A := A) (B := []) (C := B ++ C) (X := X ++ [y]) (Y := []) (Z := R) (w := w) rfl (by simp [hy]) hw .nil (h3.trans key)
    simpa using this
theorem Greedy.no {W : List α} {L : List β} {i k : Nat} (h : Greedy many fits W L i k none) (hk : k < L.length) (hn : ∀ hi : i < W.length, many W[i] = false ∧ fits W[i] L[k] = false) : ¬ Glob many fits W L := by
  cases h with
  | @free A C X Z h1 h2 h3 =>
    subst h1; subst h2
    obtain ⟨q, T, rfl⟩ := mid_of hk rfl rfl
    have e2 := get_mid hk (A := X) (D := T) (c := q) rfl rfl
    rw [h3]
    intro g
    cases C with
    | nil => cases g
    | cons c D =>
      have hi : A.length < (A ++ c :: D).length := by simp
      obtain ⟨n1, n2⟩ := hn hi
      have e := get_mid hi (A := A) (D := D) (c := c) rfl rfl
      rw [e] at n1; rw [e, e2] at n2
      obtain ⟨_, _, e, g1, _⟩ := (Glob.one_iff n1).1 g
      injection e with e _
      subst e
      rw [n2] at g1
      exact absurd g1 (by decide)
theorem Greedy.done {W : List α} {L : List β} {i : Nat} {o : Option (Nat × Nat)} (h : Greedy many fits W L i L.length o) : Glob many fits W L ↔ Glob many fits (W.drop i) [] := by
  generalize hk : L.length = k at h
  cases h with
  | @free A C X Z h1 h2 h3 =>
    subst h1; subst h2
    have : Z = [] := by simpa using hk
    subst this
    rw [h3, List.drop_left]
  | @held A B C X Y Z w h1 h2 hw hs h3 =>
    subst h1; subst h2
    have : Z = [] := by simpa using hk
    subst this
    have e : (A ++ w :: (B ++ C)).drop (A.length + 1 + B.length) = C := by
      have : A ++ w :: (B ++ C) = (A ++ w :: B) ++ C := by simp
      rw [this, List.drop_append_of_le_length (by simp; omega), List.drop_of_length_le (by simp; omega), List.nil_append]
    rw [h3, e]
    constructor
    · intro g
      obtain ⟨p, r, e, g2⟩ := (Glob.star_iff hw).1 g
      obtain ⟨p2, r2, rfl, hp, g3⟩ := Glob.ones B hs.one g2
      have hl := hs.len
      have := congrArg List.length e
      simp at this
      have : r2 = [] := List.eq_nil_of_length_eq_zero (by omega)
      subst this
      exact g3
    · intro g
      exact .star [] hw (hs.iff.2 g)
theorem Glob.empty : ∀ {W : List α}, Glob many fits W [] ↔ ∀ w ∈ W, many w = true
  | [] => ⟨fun _ w hw => (by cases hw), fun _ => .nil⟩
  | w :: W => by
    constructor
    · intro g
      cases hm : many w with
      | true =>
        obtain ⟨p, r, e, g2⟩ := (Glob.star_iff hm).1 g
        have hr : r = [] := (List.append_eq_nil_iff.1 e.symm).2
        subst hr
        intro v hv
        rcases List.mem_cons.1 hv with rfl | hv
        · exact hm
        · exact Glob.empty.1 g2 v hv
      | false =>
        obtain ⟨q, r, e, _⟩ := (Glob.one_iff hm).1 g
        exact absurd e (by simp)
    · intro h
      exact .star [] (h w (by simp)) (Glob.empty.2 fun v hv => h v (by simp [hv]))
theorem Glob.append {a b : List α} {x y : List β} (h : Glob many fits a x) (g : Glob many fits b y) : Glob many fits (a ++ b) (x ++ y) := by
  induction h with
  | nil => exact g
  | one h1 h2 _ ih => exact .one h1 h2 ih
  | star p h1 _ ih => rw [List.append_assoc]; exact .star p h1 ih
theorem Glob.split {b : List α} : ∀ {a : List α} {l : List β}, Glob many fits (a ++ b) l → ∃ x y, l = x ++ y ∧ Glob many fits a x ∧ Glob many fits b y
  | [], l, g => ⟨[], l, rfl, .nil, g⟩
  | w :: a, l, g => by
    cases hm : many w with
    | true =>
      obtain ⟨p, r, rfl, g2⟩ := (Glob.star_iff hm).1 g
      obtain ⟨x, y, rfl, g3, g4⟩ := Glob.split g2
      exact ⟨p ++ x, y, by simp, .star p hm g3, g4⟩
    | false =>
      obtain ⟨q, r, rfl, h2, g2⟩ := (Glob.one_iff hm).1 g
      obtain ⟨x, y, rfl, g3, g4⟩ := Glob.split g2
      exact ⟨q :: x, y, rfl, .one hm h2 g3, g4⟩
theorem Glob.rev {W : List α} {L : List β} (h : Glob many fits W L) : Glob many fits W.reverse L.reverse := by
  induction h with
  | nil => exact .nil
  | @one w q ws l h1 h2 _ ih =>
    rw [List.reverse_cons, List.reverse_cons]
    exact ih.append (.one h1 h2 .nil)
  | @star w ws p l h1 _ ih =>
    rw [List.reverse_cons, List.reverse_append]
    have : Glob many fits [w] (p.reverse ++ []) := .star _ h1 .nil
    rw [List.append_nil] at this
    exact ih.append this
theorem Glob.rev_iff {W : List α} {L : List β} : Glob many fits W.reverse L.reverse ↔ Glob many fits W L :=
  ⟨fun h => by have := h.rev; rwa [List.reverse_reverse, List.reverse_reverse] at this, Glob.rev⟩
theorem Glob.snoc {ws : List α} {w : α} {l : List β} : Glob many fits (ws ++ [w]) l ↔ if many w = true then ∃ x y, l = x ++ y ∧ Glob many fits ws x else ∃ x q, l = x ++ [q] ∧ fits w q = true ∧ Glob many fits ws x := by
  split
  · rename_i hm
    constructor
    · intro g
      obtain ⟨x, y, rfl, g1, _⟩ := Glob.split g
      exact ⟨x, y, rfl, g1⟩
    · rintro ⟨x, y, rfl, g⟩
      have : Glob many fits [w] (y ++ []) := .star _ hm .nil
      rw [List.append_nil] at this
      exact g.append this
  · rename_i hm
    have hm : many w = false := by simpa using hm
    constructor
    · intro g
      obtain ⟨x, y, rfl, g1, g2⟩ := Glob.split g
      obtain ⟨q, r, rfl, h2, g3⟩ := (Glob.one_iff hm).1 g2
      have hr := Glob.nil_iff.1 g3
      subst hr
      exact ⟨x, q, rfl, h2, g1⟩
    · rintro ⟨x, q, rfl, h2, g⟩
      exact g.append (.one hm h2 .nil)
theorem Glob.snoc_take {W : List α} {L : List β} {i k : Nat} (hi : i < W.length) (hk : k ≤ L.length) : Glob many fits (W.take (i + 1)) (L.take k) ↔ if many W[i] = true then ∃ j, j ≤ k ∧ Glob many fits (W.take i) (L.take j) else ∃ j, ∃ hj : j < L.length, k = j + 1 ∧ fits W[i] L[j] = true ∧ Glob many fits (W.take i) (L.take j) := by
  rw [List.take_succ_eq_append_getElem hi, Glob.snoc]
  split
  · constructor
    · rintro ⟨x, y, e, g⟩
      refine ⟨x.length, ?_, ?_⟩
      · have := congrArg List.length e
        simp at this
        omega
      · have : x = L.take x.length := by
          have h1 : x <+: L.take k := ⟨y, e.symm⟩
          have h2 : x <+: L := h1.trans (List.take_prefix _ _)
          exact (List.prefix_iff_eq_take.1 h2)
        rw [← this]
        exact g
    · rintro ⟨j, hj, g⟩
      exact ⟨L.take j, (L.take k).drop j, by
        have : L.take j = (L.take k).take j := by rw [List.take_take, Nat.min_eq_left hj]
        rw [this, List.take_append_drop], g⟩
  · constructor
    · rintro ⟨x, q, e, h2, g⟩
      have hl := congrArg List.length e
      simp at hl
      have hj : x.length < L.length := by omega
      have hk2 : k = x.length + 1 := by omega
      subst hk2
      rw [List.take_succ_eq_append_getElem hj] at e
      have := List.append_inj_left' e rfl
      have h3 := List.append_cancel_left (this ▸ e)
      injection h3 with h3 _
      exact ⟨x.length, hj, rfl, by rw [h3]; exact h2, by rw [this]; exact g⟩
    · rintro ⟨j, hj, rfl, h2, g⟩
      exact ⟨L.take j, L[j], List.take_succ_eq_append_getElem hj, h2, g⟩
end
end Go.Ax
