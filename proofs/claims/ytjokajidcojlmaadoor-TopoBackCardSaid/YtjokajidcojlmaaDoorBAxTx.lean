import Derived.Test.YtjokajidcojlmaaDoorBAxTp
import Derived.Test.YtjokajidcojlmaaDoorBAxTy

/- Layer 13's law in plain Lean: a topology's text has that topology. -/
namespace Go.Ax
open Go.Proofs Go.Lib
set_option maxRecDepth 10000

abbrev wT (w : List UInt8) : TokT := ⟨1, ⟨w.toArray⟩, 0⟩
abbrev nT (n : Int) : TokT := ⟨2, ⟨#[]⟩, n⟩
abbrev sT (c : UInt8) : TokT := ⟨3, ⟨#[c]⟩, 0⟩
theorem lowC_app (a b : List UInt8) : lowC (a ++ b) = lowC a ++ lowC b := by simp [lowC]
theorem lowC_cons (a : UInt8) (b : List UInt8) : lowC (a :: b) = (a.toNat, [a]) :: lowC b := rfl
theorem tok_blank {b : UInt8} (hb : b = 32 ∨ b = 10) (l : List UInt8) (acc : List TokT) : tokT (lowC (b :: l)) acc = tokT (lowC l) acc := by
  rw [lowC_cons, tokT_cons, if_pos (by rcases hb with rfl | rfl <;> decide)]
theorem tok_step {c : Ch} {r r' : List Ch} {t : TokT} (h0 : classF c.1 ≠ 0) (h1 : classF c.1 ≠ 1) (h : stepC (c :: r) = .tok t r') (acc : List TokT) : tokT (c :: r) acc = tokT r' (acc ++ [t]) := by
  rw [tokT_cons, if_neg h0, if_neg h1, h]
theorem tok_word {a : UInt8} {w : List UInt8} (hw : (lowC (a :: w)).all wB = true) (hc : classF ((a.toNat : Nat) : Int) = 2) (hl : (a :: w).length ≤ 20) (l : List UInt8) (acc : List TokT) : tokT (lowC ((a :: w) ++ 32 :: l)) acc = tokT (lowC (32 :: l)) (acc ++ [wT (a :: w)]) := by
  rw [lowC_app]
  obtain ⟨e1, e2⟩ := takeWhile_rest (p := wB) (by decide) (A := lowC (a :: w)) (r := lowC (32 :: l)) (fun c hc => List.all_eq_true.1 hw c hc) (.inr ⟨_, rfl⟩)
  have hs : stepC (lowC (a :: w) ++ lowC (32 :: l)) = .tok (wT (a :: w)) (lowC (32 :: l)) := by
    have hb : baOf (lowC (a :: w)) = ⟨(a :: w).toArray⟩ := by rw [baOf, flat_low]
    unfold stepC
    rw [lowC_cons, List.cons_append] at e1 e2 ⊢
    simp only
    rw [if_pos hc, e1, e2, if_neg (by rw [← lowC_cons]; simp only [lowC, List.length_map]; omega), ← lowC_cons, hb]
  rw [lowC_cons, List.cons_append] at hs ⊢
  exact tok_step (by show classF ((a.toNat : Nat) : Int) ≠ 0; omega) (by show classF ((a.toNat : Nat) : Int) ≠ 1; omega) hs acc
theorem tok_num {u : Nat} (hu : u ≤ 65535) {x : UInt8} (hx : x = 32 ∨ x = 58) (l : List UInt8) (acc : List TokT) : tokT (lowC (decDigits u ++ x :: l)) acc = tokT (lowC (x :: l)) (acc ++ [nT u]) := by
  rw [lowC_app]
  have hd : ∀ c ∈ lowC (decDigits u), dB c = true := fun c hc => by
    obtain ⟨b, hb, rfl⟩ := List.mem_map.1 hc
    have := dec_digit u b hb
    exact isDigit_of (by omega)
  have hxd : dB (x.toNat, [x]) = false := by rcases hx with rfl | rfl <;> decide
  have hxw : wB (x.toNat, [x]) = false := by rcases hx with rfl | rfl <;> decide
  have h1 : (lowC (decDigits u)).takeWhile dB = lowC (decDigits u) := by
    generalize lowC (decDigits u) = A at hd
    induction A with
    | nil => rfl
    | cons a A ih => rw [List.takeWhile_cons, if_pos (hd a (by simp)), ih fun c hc => hd c (by simp [hc])]
  obtain ⟨e1, e2⟩ := takeWhile_stop hxd (lowC (decDigits u)) (lowC l)
  rw [h1] at e1
  rw [dropWhile_nil hd, List.nil_append] at e2
  have hn := numC_dec u hu
  rw [lowC_cons x l]
  cases hl : lowC (decDigits u) with
  | nil => exact absurd (List.map_eq_nil_iff.1 hl) (dec_ne u)
  | cons c r' =>
    rw [hl] at e1 e2 hn hd
    have hc : classF c.1 = 3 := by have := hd c (by simp); simpa [dB, isDigit] using this
    have hs : stepC ((c :: r') ++ (x.toNat, [x]) :: lowC l) = .tok (nT u) ((x.toNat, [x]) :: lowC l) := by
      unfold stepC
      simp only [List.cons_append] at e1 e2 ⊢
      have hh : headW ((x.toNat, [x]) :: lowC l) = false := hxw
      rw [if_neg (by omega), if_pos hc, e1, e2, hh, hn]
      rfl
    rw [List.cons_append] at hs ⊢
    exact tok_step (by omega) (by omega) hs acc
theorem tok_sign {c b : UInt8} (hc : c = 58 ∧ b ≠ 61 ∨ c = 45 ∨ c = 46) (l : List UInt8) (acc : List TokT) : tokT (lowC (c :: b :: l)) acc = tokT (lowC (b :: l)) (acc ++ [sT c]) := by
  have h5 : classF ((c.toNat : Nat) : Int) = 5 := by rcases hc with ⟨rfl, _⟩ | rfl | rfl <;> decide
  have hs : stepC (lowC (c :: b :: l)) = .tok (sT c) (lowC (b :: l)) := by
    have h2 : sign2 (lowC (c :: b :: l)) = false := by
      rcases hc with ⟨rfl, hb⟩ | rfl | rfl
      · show (((58 : UInt8).toNat == 58 && b.toNat == 61) || ((58 : UInt8).toNat == 61 && b.toNat == 62)) = false
        have : b.toNat ≠ 61 := fun e => hb (UInt8.toNat_inj.1 e)
        simp [this]
      · show (((45 : UInt8).toNat == 58 && b.toNat == 61) || ((45 : UInt8).toNat == 61 && b.toNat == 62)) = false
        simp
      · show (((46 : UInt8).toNat == 58 && b.toNat == 61) || ((46 : UInt8).toNat == 61 && b.toNat == 62)) = false
        simp
    unfold stepC
    rw [lowC_cons] at h2 ⊢
    simp only
    rw [if_neg (by omega), if_neg (by omega), if_pos h5, h2]
    rfl
  rw [lowC_cons] at hs ⊢
  exact tok_step (by show classF ((c.toNat : Nat) : Int) ≠ 0; omega) (by show classF ((c.toNat : Nat) : Int) ≠ 1; omega) hs acc

/-! ### the text's bytes and tokens -/
def sayL (p : PortT) : List UInt8 := decDigits p.1.toNat ++ 58 :: decDigits p.2.toNat
def sayT (p : PortT) : List TokT := [nT p.1, sT 58, nT p.2]
theorem dec_head (u : Nat) : ∃ b r, decDigits u = b :: r ∧ b ≠ 61 := by
  cases h : decDigits u with
  | nil => exact absurd h (dec_ne u)
  | cons b r =>
    refine ⟨b, r, rfl, fun e => ?_⟩
    have := dec_digit u b (by rw [h]; simp)
    subst e; revert this; decide
theorem tok_say {p : PortT} (hp : OkP p) (l : List UInt8) (acc : List TokT) : tokT (lowC (sayL p ++ 32 :: l)) acc = tokT (lowC (32 :: l)) (acc ++ sayT p) := by
  obtain ⟨p1, p2, p3, p4⟩ := hp
  obtain ⟨b, r, hb, hne⟩ := dec_head p.2.toNat
  have e : sayL p ++ 32 :: l = decDigits p.1.toNat ++ 58 :: (decDigits p.2.toNat ++ 32 :: l) := by simp [sayL]
  rw [e, tok_num (by omega) (.inr rfl), hb, List.cons_append, tok_sign (.inl ⟨rfl, hne⟩), ← List.cons_append, ← hb, tok_num (by omega) (.inl rfl)]
  have a1 : ((p.1.toNat : Nat) : Int) = p.1 := by omega
  have a2 : ((p.2.toNat : Nat) : Int) = p.2 := by omega
  rw [a1, a2]
  simp [sayT]
def lkL (l : PortT × PortT) : List UInt8 := [108, 105, 110, 107] ++ 32 :: (sayL l.1 ++ 32 :: 45 :: 32 :: (sayL l.2 ++ [32, 46, 10]))
def lnkT (l : PortT × PortT) : List TokT := wT [108, 105, 110, 107] :: (sayT l.1 ++ sT 45 :: (sayT l.2 ++ [sT 46]))
def hoL (p : PortT) : List UInt8 := [104, 111, 115, 116] ++ 32 :: (sayL p ++ [32, 46, 10])
def hoT (p : PortT) : List TokT := wT [104, 111, 115, 116] :: (sayT p ++ [sT 46])
theorem tok_lk {x : PortT × PortT} (h : OkP x.1 ∧ OkP x.2) (l : List UInt8) (acc : List TokT) : tokT (lowC (lkL x ++ l)) acc = tokT (lowC l) (acc ++ lnkT x) := by
  have e : lkL x ++ l = [108, 105, 110, 107] ++ 32 :: (sayL x.1 ++ 32 :: 45 :: 32 :: (sayL x.2 ++ 32 :: 46 :: 10 :: l)) := by simp [lkL]
  rw [e, tok_word (by decide) (by decide) (by decide), tok_blank (.inl rfl), tok_say h.1, tok_blank (.inl rfl), tok_sign (.inr (.inl rfl)), tok_blank (.inl rfl), tok_say h.2, tok_blank (.inl rfl), tok_sign (.inr (.inr rfl)), tok_blank (.inr rfl)]
  simp [lnkT]
theorem tok_ho {x : PortT} (h : OkP x) (l : List UInt8) (acc : List TokT) : tokT (lowC (hoL x ++ l)) acc = tokT (lowC l) (acc ++ hoT x) := by
  have e : hoL x ++ l = [104, 111, 115, 116] ++ 32 :: (sayL x ++ 32 :: 46 :: 10 :: l) := by simp [hoL]
  rw [e, tok_word (by decide) (by decide) (by decide), tok_blank (.inl rfl), tok_say h, tok_blank (.inl rfl), tok_sign (.inr (.inr rfl)), tok_blank (.inr rfl)]
  simp [hoT]

def swTail (l : List Int) : List UInt8 := l.flatMap fun n => 32 :: decDigits n.toNat
def swL (l : List Int) : List UInt8 := if l.length = 0 then [] else [115, 119, 105, 116, 99, 104] ++ (swTail l ++ [32, 46, 10])
def swK (l : List Int) : List TokT := if l.length = 0 then [] else wT [115, 119, 105, 116, 99, 104] :: (l.map nT ++ [sT 46])
theorem tok_nums : ∀ {l : List Int}, (∀ n ∈ l, 0 ≤ n ∧ n < 65536) → ∀ (r : List UInt8) (acc : List TokT), tokT (lowC (swTail l ++ 32 :: r)) acc = tokT (lowC (32 :: r)) (acc ++ l.map nT)
  | [], _, r, acc => by simp [swTail]
  | n :: l, h, r, acc => by
    have hn := h n (by simp)
    have e : swTail (n :: l) ++ 32 :: r = 32 :: (decDigits n.toNat ++ (swTail l ++ 32 :: r)) := by simp [swTail]
    have hx : ∃ y, swTail l ++ 32 :: r = 32 :: y := by
      cases l with
      | nil => exact ⟨r, rfl⟩
      | cons m l => exact ⟨decDigits m.toNat ++ (swTail l ++ 32 :: r), by simp [swTail]⟩
    obtain ⟨y, hy⟩ := hx
    rw [e, tok_blank (.inl rfl), hy, tok_num (by omega) (.inl rfl), ← hy, tok_nums (fun m hm => h m (by simp [hm]))]
    have a1 : ((n.toNat : Nat) : Int) = n := by omega
    rw [a1]; simp
theorem tok_sw {l : List Int} (h : ∀ n ∈ l, 0 ≤ n ∧ n < 65536) (r : List UInt8) (acc : List TokT) : tokT (lowC (swL l ++ r)) acc = tokT (lowC r) (acc ++ swK l) := by
  unfold swL swK
  split
  · simp
  · rename_i hl
    have hx : ∃ y, swTail l ++ 32 :: 46 :: 10 :: r = 32 :: y := by
      cases l with
      | nil => exact absurd rfl hl
      | cons m l => exact ⟨decDigits m.toNat ++ (swTail l ++ 32 :: 46 :: 10 :: r), by simp [swTail]⟩
    obtain ⟨y, hy⟩ := hx
    have e : [115, 119, 105, 116, 99, 104] ++ (swTail l ++ [32, 46, 10]) ++ r = [115, 119, 105, 116, 99, 104] ++ (swTail l ++ 32 :: 46 :: 10 :: r) := by simp
    rw [e, hy, tok_word (by decide) (by decide) (by decide), ← hy, tok_nums h, tok_blank (.inl rfl), tok_sign (.inr (.inr rfl)), tok_blank (.inr rfl)]
    simp
theorem tok_lks : ∀ {l : List (PortT × PortT)}, (∀ x ∈ l, OkP x.1 ∧ OkP x.2) → ∀ (r : List UInt8) (acc : List TokT), tokT (lowC (l.flatMap lkL ++ r)) acc = tokT (lowC r) (acc ++ l.flatMap lnkT)
  | [], _, r, acc => by simp
  | x :: l, h, r, acc => by
    rw [List.flatMap_cons, List.append_assoc, tok_lk (h x (by simp)), tok_lks fun y hy => h y (by simp [hy])]
    simp
theorem tok_hos : ∀ {l : List PortT}, (∀ x ∈ l, OkP x) → ∀ (r : List UInt8) (acc : List TokT), tokT (lowC (l.flatMap hoL ++ r)) acc = tokT (lowC r) (acc ++ l.flatMap hoT)
  | [], _, r, acc => by simp
  | x :: l, h, r, acc => by
    rw [List.flatMap_cons, List.append_assoc, tok_ho (h x (by simp)), tok_hos fun y hy => h y (by simp [hy])]
    simp
def textL (t : TopoT) : List UInt8 := swL t.sw ++ (t.links.flatMap lkL ++ (t.hosts.flatMap hoL ++ []))
def tokL (t : TopoT) : List TokT := swK t.sw ++ (t.links.flatMap lnkT ++ t.hosts.flatMap hoT)
theorem tok_text {t : TopoT} (h : OkT t) : tokT (lowC (textL t)) [] = (some (tokL t ++ [noTok]), 0) := by
  rw [textL, tok_sw h.sw, tok_lks h.links, tok_hos h.hosts]
  show tokT [] _ = _
  rw [tokT_nil]
  simp [tokL]

/-! ### the text is that -/
theorem dataL (a b : ByteArray) : (a ++ b).data.toList = a.data.toList ++ b.data.toList := by rw [ByteArray.data_append]; simp
theorem digB_data (n : Nat) : (digB n).data.toList = decDigits n := by simp [digB]
theorem sayB_data (p : PortT) : (sayB p).data.toList = sayL p := by
  rw [sayB, dataL, dataL, digB_data, digB_data]; simp [sayL, colonB]
theorem fold_data {α : Type} (f : ByteArray → α → ByteArray) (g : α → List UInt8) (h : ∀ b x, (f b x).data.toList = b.data.toList ++ g x) : ∀ (l : List α) (b : ByteArray), (l.foldl f b).data.toList = b.data.toList ++ l.flatMap g
  | [], b => by simp
  | x :: l, b => by rw [List.foldl_cons, fold_data f g h l, h]; simp
theorem swT_data (t : TopoT) : (swT t).data.toList = swL t.sw := by
  unfold swT swL
  split
  · rfl
  · rw [dataL, fold_data swB (fun n => 32 :: decDigits n.toNat) (fun b n => by rw [swB, dataL, dataL, digB_data]; rfl)]
    simp [switchB, dotB, swTail]
theorem textF_data (t : TopoT) : (textF t).data.toList = textL t := by
  rw [textF, fold_data hoB hoL (fun b p => by rw [hoB, dataL, dataL, dataL, sayB_data]; simp [hoL, hostB, dotB]), fold_data lnB lkL (fun b l => by rw [lnB, dataL, dataL, dataL, dataL, dataL, sayB_data, sayB_data]; simp [lkL, linkB, dashB, dotB]), swT_data]
  simp [textL]

theorem say_low (p : PortT) : ∀ b ∈ sayL p, b.toNat < 128 := fun b hb => by
  simp only [sayL, List.mem_append, List.mem_cons] at hb
  rcases hb with hb | rfl | hb
  · have := dec_digit _ b hb; omega
  · decide
  · have := dec_digit _ b hb; omega
theorem text_low (t : TopoT) : ∀ b ∈ textL t, b.toNat < 128 := fun b hb => by
  simp only [textL, List.append_nil, List.mem_append, List.mem_flatMap] at hb
  rcases hb with hb | ⟨x, _, hb⟩ | ⟨x, _, hb⟩
  · unfold swL at hb
    split at hb
    · simp at hb
    · simp only [swTail, List.mem_append, List.mem_flatMap, List.mem_cons, List.not_mem_nil, or_false] at hb
      rcases hb with (rfl | rfl | rfl | rfl | rfl | rfl) | ⟨n, _, rfl | hb⟩ | rfl | rfl | rfl
      all_goals first | decide | (have := dec_digit _ b hb; omega)
  · simp only [lkL, List.mem_append, List.mem_cons, List.not_mem_nil, or_false] at hb
    rcases hb with (rfl | rfl | rfl | rfl) | rfl | hb | rfl | rfl | rfl | hb | rfl | rfl | rfl
    all_goals first | decide | exact say_low _ b hb
  · simp only [hoL, List.mem_append, List.mem_cons, List.not_mem_nil, or_false] at hb
    rcases hb with (rfl | rfl | rfl | rfl) | rfl | hb | rfl | rfl | rfl
    all_goals first | decide | exact say_low _ b hb
theorem tokens_text {t : TopoT} (h : OkT t) (hs : (textF t).size ≤ 4000) : tokensF vS (textF t) = (some (tokL t ++ [noTok]), 0) := by
  have hlow : ∀ b ∈ (textF t).data.toList, b.toNat < 128 := by rw [textF_data]; exact text_low t
  have hv : vS (textF t) = true := by
    rw [vS, valid_chunks, low_chunks _ hlow]; exact all_low _ hlow
  rw [tokensF_T _ hs, if_neg (by rw [hv]; simp), low_chunks _ hlow, textF_data]
  exact tok_text h

/-! ### and is read as it -/
theorem nums_back : ∀ (l : List Int) (r : List TokT) (acc : List Int), numsF (l.map nT ++ sT 46 :: r) acc = (sT 46 :: r, acc ++ l)
  | [], r, acc => by simp [numsF, isN]
  | n :: l, r, acc => by
    show numsF (nT n :: (l.map nT ++ sT 46 :: r)) acc = _
    rw [numsF, if_pos (show isN (nT n) = true from rfl), nums_back l r]; simp
theorem stat_sw (n : Int) (l : List Int) (r : List TokT) (t : TopoT) : statF ⟨wT [115, 119, 105, 116, 99, 104] :: (nT n :: l.map nT ++ sT 46 :: r), false⟩ t = (⟨r, false⟩, { t with sw := t.sw ++ n :: l }) := by
  have h1 : swF ⟨wT [115, 119, 105, 116, 99, 104] :: (nT n :: l.map nT ++ sT 46 :: r), false⟩ t = (⟨sT 46 :: r, false⟩, { t with sw := t.sw ++ n :: l }) := by
    show ((⟨(numsF (l.map nT ++ sT 46 :: r) (t.sw ++ [n])).1, false⟩ : PS), ({ t with sw := (numsF (l.map nT ++ sT 46 :: r) (t.sw ++ [n])).2 } : TopoT)) = _
    rw [nums_back]; simp
  rw [statF]
  rw [show wordB ⟨wT [115, 119, 105, 116, 99, 104] :: (nT n :: l.map nT ++ sT 46 :: r), false⟩ switchB = true from rfl]
  simp only [if_true, h1]
  rfl
theorem port_tok (p : PortT) (r : List TokT) : portF ⟨sayT p ++ r, false⟩ = (p, ⟨r, false⟩) := rfl
theorem stat_lk (x : PortT × PortT) (r : List TokT) (t : TopoT) : statF ⟨lnkT x ++ r, false⟩ t = (⟨r, false⟩, { t with links := t.links ++ [x] }) := by
  have w1 : wordB ⟨lnkT x ++ r, false⟩ switchB = false := rfl
  have w2 : wordB ⟨lnkT x ++ r, false⟩ link4 = true := rfl
  have h1 : takeF ⟨lnkT x ++ r, false⟩ link4 = ⟨sayT x.1 ++ (sT 45 :: (sayT x.2 ++ sT 46 :: r)), false⟩ := by simp [takeF, lnkT]; rfl
  have h2 : lkF ⟨lnkT x ++ r, false⟩ t = (⟨sT 46 :: r, false⟩, { t with links := t.links ++ [x] }) := by
    rw [lkF, h1, port_tok]
    rw [show mustF ((x.1, (⟨sT 45 :: (sayT x.2 ++ sT 46 :: r), false⟩ : PS)).2) dash1 = ⟨sayT x.2 ++ sT 46 :: r, false⟩ from rfl, port_tok]
  rw [statF, w1, w2, h2]
  rfl
theorem stat_ho (x : PortT) (r : List TokT) (t : TopoT) : statF ⟨hoT x ++ r, false⟩ t = (⟨r, false⟩, { t with hosts := t.hosts ++ [x] }) := by
  have w1 : wordB ⟨hoT x ++ r, false⟩ switchB = false := rfl
  have w2 : wordB ⟨hoT x ++ r, false⟩ link4 = false := rfl
  have w3 : wordB ⟨hoT x ++ r, false⟩ host4 = true := rfl
  have h1 : takeF ⟨hoT x ++ r, false⟩ host4 = ⟨sayT x ++ sT 46 :: r, false⟩ := by simp [takeF, hoT]; rfl
  have h2 : hoF ⟨hoT x ++ r, false⟩ t = (⟨sT 46 :: r, false⟩, { t with hosts := t.hosts ++ [x] }) := by
    rw [hoF, h1, port_tok]
  rw [statF, w1, w2, w3, h2]
  rfl
theorem loop_step {f : Nat} {p : PS} {t : TopoT} (h : ((hd p.l).kind != 0 && !p.bad) = true) : loopF (f + 1) p t = loopF f (statF p t).1 (statF p t).2 := by rw [loopF, if_pos h]
theorem loop_lk : ∀ (l : List (PortT × PortT)) (r : List TokT) (t : TopoT) (f : Nat), loopF (l.length + f) ⟨l.flatMap lnkT ++ r, false⟩ t = loopF f ⟨r, false⟩ { t with links := t.links ++ l }
  | [], r, t, f => by simp
  | x :: l, r, t, f => by
    rw [show (x :: l).length + f = (l.length + f) + 1 by simp; omega, List.flatMap_cons, List.append_assoc, loop_step rfl, stat_lk, loop_lk]
    simp
theorem loop_ho : ∀ (l : List PortT) (r : List TokT) (t : TopoT) (f : Nat), loopF (l.length + f) ⟨l.flatMap hoT ++ r, false⟩ t = loopF f ⟨r, false⟩ { t with hosts := t.hosts ++ l }
  | [], r, t, f => by simp
  | x :: l, r, t, f => by
    rw [show (x :: l).length + f = (l.length + f) + 1 by simp; omega, List.flatMap_cons, List.append_assoc, loop_step rfl, stat_ho, loop_ho]
    simp
theorem loop_sw (l : List Int) (r : List TokT) (f : Nat) : ∃ f', f ≤ f' ∧ loopF (f + 1) ⟨swK l ++ r, false⟩ noT = loopF f' ⟨r, false⟩ ⟨l, [], []⟩ := by
  cases l with
  | nil => exact ⟨f + 1, by omega, rfl⟩
  | cons n l =>
    refine ⟨f, Nat.le_refl _, ?_⟩
    have e : swK (n :: l) ++ r = wT [115, 119, 105, 116, 99, 104] :: (nT n :: l.map nT ++ sT 46 :: r) := by simp [swK]
    rw [e, loop_step rfl, stat_sw]
    rfl
theorem len_lk : ∀ l : List (PortT × PortT), l.length ≤ (l.flatMap lnkT).length
  | [] => Nat.le_refl _
  | x :: l => by have := len_lk l; have h1 : (lnkT x).length = (sayT x.1 ++ sT 45 :: (sayT x.2 ++ [sT 46])).length + 1 := rfl; rw [List.flatMap_cons, List.length_append, List.length_cons]; omega
theorem len_ho : ∀ l : List PortT, l.length ≤ (l.flatMap hoT).length
  | [] => Nat.le_refl _
  | x :: l => by have := len_ho l; have h1 : (hoT x).length = (sayT x ++ [sT 46]).length + 1 := rfl; rw [List.flatMap_cons, List.length_append, List.length_cons]; omega
theorem topo_back {t : TopoT} (h : OkT t) (hc : checkF t = 0) (hs : (textF t).size ≤ 4000) : parseF (textF t) = (some t, 0) := by
  have hl : loopF (2 * (tokL t ++ [noTok]).length + 2) ⟨tokL t ++ [noTok], false⟩ noT = (⟨[noTok], false⟩, t) := by
    have e : tokL t ++ [noTok] = swK t.sw ++ (t.links.flatMap lnkT ++ (t.hosts.flatMap hoT ++ [noTok])) := by simp [tokL]
    have n1 := len_lk t.links
    have n2 := len_ho t.hosts
    have n3 : (tokL t).length = (swK t.sw).length + ((t.links.flatMap lnkT).length + (t.hosts.flatMap hoT).length) := by simp [tokL]
    obtain ⟨f', h1, h2⟩ := loop_sw t.sw (t.links.flatMap lnkT ++ (t.hosts.flatMap hoT ++ [noTok])) (2 * (tokL t ++ [noTok]).length + 1)
    rw [e] at h2
    rw [e, h2]
    have h3 : (tokL t ++ [noTok]).length = (tokL t).length + 1 := by simp
    obtain ⟨f2, rfl⟩ : ∃ f2, f' = t.links.length + (t.hosts.length + (f2 + 1)) := ⟨f' - t.links.length - t.hosts.length - 1, by omega⟩
    rw [loop_lk, loop_ho]
    rfl
  rw [parseF, tokens_text h hs]
  simp only [hl]
  rw [if_neg (by simp), if_neg (by rw [hc]; simp)]
end Go.Ax
