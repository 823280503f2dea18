/- What the card of this claim stands on, or the card itself: for every input, as the given row says. -/
import Derived.Lib.Index
import Derived.Lib.RuneCount
import Derived.Lib.ValidLaws
import Derived.Test.YtjcgfiidbpailaaDoorPA06

namespace Go.Ax
open Go.Proofs Go.Lib
set_option maxRecDepth 10000
def splitL (c : UInt8) : List UInt8 → List (List UInt8)
  | [] => [[]]
  | b :: r => if c = b then [] :: splitL c r else match splitL c r with
    | [] => [[b]]
    | p :: ps => (b :: p) :: ps
theorem splitL_ne (c : UInt8) : ∀ l, splitL c l ≠ []
  | [] => by simp [splitL]
  | b :: r => by
    rw [splitL]
    split
    · simp
    · split <;> simp
theorem index_one (c : UInt8) : ∀ l : List UInt8, (index l [c] = -1 ∧ splitL c l = [l]) ∨ ∃ n : Nat, index l [c] = n ∧ n < l.length ∧ splitL c l = l.take n :: splitL c (l.drop (n + 1))
  | [] => .inl ⟨rfl, rfl⟩
  | b :: r => by
    rw [index, splitL]
    by_cases h : c = b
    · subst h
      right
      exact ⟨0, by simp, by simp, by simp⟩
    · have hp : [c].isPrefixOf (b :: r) = false := by simp [List.isPrefixOf, h]
      rw [hp, if_neg h]
      simp only [Bool.false_eq_true, if_false]
      rcases index_one c r with ⟨h1, h2⟩ | ⟨n, h1, h2, h3⟩
      · left
        rw [h1, h2]; exact ⟨rfl, rfl⟩
      · right
        rw [h1, h3]
        have hn : ((n : Int) == -1) = false := by rw [beq_eq_false_iff_ne]; omega
        refine ⟨n + 1, ?_, by simp; omega, by simp⟩
        simp only [hn, Bool.false_eq_true, if_false]; rfl
def baL (l : List UInt8) : ByteArray := ⟨l.toArray⟩
def boxH (s : ByteArray) (c : UInt8) : HL := [(9103, some (.dvar 1 [.v (.string s)])), (9104, some (.dvar 1 [.v (.string ⟨#[c]⟩)])), (9105, some (.dvar 1 [.i64 0]))]
theorem sub_take {s : ByteArray} {n : Nat} (h : n ≤ s.size) : s.extract 0 n = baL (s.data.toList.take n) := by
  apply ByteArray.ext
  rw [baL, ByteArray.data_extract]
  apply Array.ext'
  rw [Array.toList_extract, List.extract_eq_take_drop, List.drop_zero, Nat.sub_zero]
theorem sub_drop {s : ByteArray} {n : Nat} : s.extract n s.size = baL (s.data.toList.drop n) := by
  apply ByteArray.ext
  rw [baL, ByteArray.data_extract]
  apply Array.ext'
  rw [Array.toList_extract, List.extract_eq_take_drop, List.take_of_length_le (by rw [List.length_drop, show s.data.toList.length = s.size from by rw [Array.length_toList]; rfl]; omega)]
theorem split_iter (g : GP) (c : UInt8) (hI : ∀ s : ByteArray, Ctr (ax g).E 103 [.str s, .str ⟨#[c]⟩] [] (fun o => o = .ret (.i64 (index s.data.toList [c])) [])) (s : ByteArray) (hs : s.size < 2 ^ 62) :
    IterC (ax g).E 102 [.ptr 9104 0, .ptr 9103 0, .ptr 9105 0] (boxH s c) (fun l : List UInt8 => Value.string (baL l)) (splitL c s.data.toList) := by
  intro l K h0 R Rx hY
  refine Ctr.body (X := ax g) _ 52 [9009, 9103, 9104, 9105] [] Tryd.func102 rfl rfl rfl rfl (by decide +kernel) rfl rfl ?_
  conv => whnf
  repeat' (first | (refine And.intro (by first | exact rfl | decide | exact Nat.le_of_ble_eq_true rfl | exact ⟨_, rfl⟩ | exact ⟨_, _, rfl⟩ | exact Nat.le_refl _ | exact Int.le_refl _ | omega | (simp only [List.length_map]; omega) | exact True.intro | (simp only [IntKind.wrap_i64, List.length_map]; omega) | (simp only [List.map_cons, List.map_nil, List.length_cons, Option.getD]; omega) | (simp only [bsz, ByteArray.size_append, List.size_toArray, List.length_cons, List.length_nil]; omega) | exact ⟨⟨_, _, rfl, rfl, Nat.le_of_ble_eq_true rfl⟩, trivial⟩ | exact ⟨⟨_, _, rfl, rfl, Nat.le_of_ble_eq_true rfl⟩, ⟨_, _, rfl, rfl, Nat.le_of_ble_eq_true rfl⟩, trivial⟩ | exact ⟨⟨_, _, rfl, rfl, Nat.le_of_ble_eq_true rfl⟩, ⟨_, _, rfl, rfl, Nat.le_of_ble_eq_true rfl⟩, ⟨_, _, rfl, rfl, Nat.le_of_ble_eq_true rfl⟩, trivial⟩) ?_; conv => whnf) | (refine ifB_intro (fun hA => ?_) (fun hA => ?_) <;> (try rw [hA]) <;> (conv => whnf) <;> (first | replace hA := of_decide_eq_true hA | replace hA := of_decide_eq_false hA | replace hA := eq_of_beq hA | replace hA := ne_of_beq_false hA | replace hA := bne_iff_ne.1 hA | replace hA := bne_eq_false_iff_eq.1 hA | skip) <;> (try simp only [List.length_map, cond_true, cond_false, Bool.not_eq_true', Bool.not_eq_false', beq_iff_eq, beq_eq_false_iff_ne, ne_eq] at hA)) | (rw [getD_map _ _ _ _ (by assumption)]; conv => whnf))
  refine LoopP.inv (X := ax g) (fun x : List (List UInt8) × ByteArray => { f := [(0, .clo (.yield l) [] []), (1, .ptr 9104 0), (2, .ptr 9103 0), (3, .ptr 9105 0)], h := (9009, some (.gst K h0 (R x.1))) :: boxH x.2 c }) (fun x => splitL c s.data.toList = x.1 ++ splitL c x.2.data.toList ∧ x.2.size ≤ s.size) (fun x => x.2.size) ([], s) ⟨rfl, Nat.le_refl _⟩ ⟨⟨rfl, rfl, rfl, rfl, trivial⟩, ⟨fun o h => h, fun o h => h, fun o h => h, fun o h => h, trivial⟩⟩ fun ⟨pre, t⟩ ⟨he, ht⟩ => ?_
  dsimp only at he ht ⊢
  have hi := hI t
  conv => whnf
  rcases index_one c t.data.toList with ⟨h1, h2⟩ | ⟨n, h1, h2, h3⟩
  · rw [h1] at hi
    have hx : splitL c s.data.toList = pre ++ t.data.toList :: [] := by rw [he, h2]
    have hy := hY pre t.data.toList [] hx
    rw [show (fun l : List UInt8 => Value.string (baL l)) t.data.toList = Value.string t from by show Value.string ⟨t.data.toList.toArray⟩ = _; cases t; simp] at hy
    rw [← hx] at hy
    repeat' (first | (refine And.intro (by first | exact rfl | decide | exact Nat.le_of_ble_eq_true rfl | exact ⟨_, rfl⟩ | exact ⟨_, _, rfl⟩ | exact Nat.le_refl _ | exact Int.le_refl _ | omega | (simp only [List.length_map]; omega) | exact True.intro | (simp only [IntKind.wrap_i64, List.length_map]; omega) | (simp only [List.map_cons, List.map_nil, List.length_cons, Option.getD]; omega) | (simp only [bsz, ByteArray.size_append, List.size_toArray, List.length_cons, List.length_nil]; omega) | exact ⟨⟨_, _, rfl, rfl, Nat.le_of_ble_eq_true rfl⟩, trivial⟩ | exact ⟨⟨_, _, rfl, rfl, Nat.le_of_ble_eq_true rfl⟩, ⟨_, _, rfl, rfl, Nat.le_of_ble_eq_true rfl⟩, trivial⟩ | exact ⟨⟨_, _, rfl, rfl, Nat.le_of_ble_eq_true rfl⟩, ⟨_, _, rfl, rfl, Nat.le_of_ble_eq_true rfl⟩, ⟨_, _, rfl, rfl, Nat.le_of_ble_eq_true rfl⟩, trivial⟩) ?_; conv => whnf) | (refine ifB_intro (fun hA => ?_) (fun hA => ?_) <;> (try rw [hA]) <;> (conv => whnf) <;> (first | replace hA := of_decide_eq_true hA | replace hA := of_decide_eq_false hA | replace hA := eq_of_beq hA | replace hA := ne_of_beq_false hA | replace hA := bne_iff_ne.1 hA | replace hA := bne_eq_false_iff_eq.1 hA | skip) <;> (try simp only [List.length_map, cond_true, cond_false, Bool.not_eq_true', Bool.not_eq_false', beq_iff_eq, beq_eq_false_iff_ne, ne_eq] at hA)) | (refine CallP.det (hi) ?_; conv => whnf) | (refine CallD.det (hi) ?_; conv => whnf) | (refine YieldP.two (hy) (by (conv => whnf); repeat' first | exact trivial | refine And.intro (fun _ h => h) ?_) rfl rfl ?_ ?_ <;> conv => whnf) | (rw [getD_map _ _ _ _ (by assumption)]; conv => whnf))
    · refine ⟨⟨[(9009, some (.gst K h0 (R (splitL c s.data.toList))))], ?_⟩⟩
      conv => whnf
      repeat' (first | (refine And.intro (by first | exact rfl | decide | exact Nat.le_of_ble_eq_true rfl | exact ⟨_, rfl⟩ | exact ⟨_, _, rfl⟩ | exact Nat.le_refl _ | exact Int.le_refl _ | omega | (simp only []; omega) | exact True.intro | (simp only []; omega) | (simp only []; omega) | (simp only []; omega) | exact ⟨⟨_, _, rfl, rfl, Nat.le_of_ble_eq_true rfl⟩, trivial⟩ | exact ⟨⟨_, _, rfl, rfl, Nat.le_of_ble_eq_true rfl⟩, ⟨_, _, rfl, rfl, Nat.le_of_ble_eq_true rfl⟩, trivial⟩ | exact ⟨⟨_, _, rfl, rfl, Nat.le_of_ble_eq_true rfl⟩, ⟨_, _, rfl, rfl, Nat.le_of_ble_eq_true rfl⟩, ⟨_, _, rfl, rfl, Nat.le_of_ble_eq_true rfl⟩, trivial⟩) ?_; conv => whnf) | (refine ifB_intro (fun hA => ?_) (fun hA => ?_) <;> (try rw [hA]) <;> (conv => whnf) <;> (first | replace hA := of_decide_eq_true hA | replace hA := of_decide_eq_false hA | replace hA := eq_of_beq hA | replace hA := ne_of_beq_false hA | replace hA := bne_iff_ne.1 hA | replace hA := bne_eq_false_iff_eq.1 hA | skip) <;> (try simp only [List.length_map, cond_true, cond_false, Bool.not_eq_true', Bool.not_eq_false', beq_iff_eq, beq_eq_false_iff_ne, ne_eq] at hA)) | (refine And.intro ⟨fun o h => h, trivial⟩ ?_; conv => whnf) | (rw [getD_map _ _ _ _ (by assumption)]; conv => whnf))
      exact ⟨_, .inl rfl⟩
    · refine ⟨⟨[(9009, some (.gst K h0 Rx))], ?_⟩⟩
      conv => whnf
      repeat' (first | (refine And.intro (by first | exact rfl | decide | exact Nat.le_of_ble_eq_true rfl | exact ⟨_, rfl⟩ | exact ⟨_, _, rfl⟩ | exact Nat.le_refl _ | exact Int.le_refl _ | omega | (simp only []; omega) | exact True.intro | (simp only []; omega) | (simp only []; omega) | (simp only []; omega) | exact ⟨⟨_, _, rfl, rfl, Nat.le_of_ble_eq_true rfl⟩, trivial⟩ | exact ⟨⟨_, _, rfl, rfl, Nat.le_of_ble_eq_true rfl⟩, ⟨_, _, rfl, rfl, Nat.le_of_ble_eq_true rfl⟩, trivial⟩ | exact ⟨⟨_, _, rfl, rfl, Nat.le_of_ble_eq_true rfl⟩, ⟨_, _, rfl, rfl, Nat.le_of_ble_eq_true rfl⟩, ⟨_, _, rfl, rfl, Nat.le_of_ble_eq_true rfl⟩, trivial⟩) ?_; conv => whnf) | (refine ifB_intro (fun hA => ?_) (fun hA => ?_) <;> (try rw [hA]) <;> (conv => whnf) <;> (first | replace hA := of_decide_eq_true hA | replace hA := of_decide_eq_false hA | replace hA := eq_of_beq hA | replace hA := ne_of_beq_false hA | replace hA := bne_iff_ne.1 hA | replace hA := bne_eq_false_iff_eq.1 hA | skip) <;> (try simp only [List.length_map, cond_true, cond_false, Bool.not_eq_true', Bool.not_eq_false', beq_iff_eq, beq_eq_false_iff_ne, ne_eq] at hA)) | (refine And.intro ⟨fun o h => h, trivial⟩ ?_; conv => whnf) | (rw [getD_map _ _ _ _ (by assumption)]; conv => whnf))
      exact ⟨_, .inr rfl⟩
  · rw [h1] at hi
    have hx : splitL c s.data.toList = pre ++ t.data.toList.take n :: splitL c (t.data.toList.drop (n + 1)) := by rw [he, h3]
    have hy := hY pre (t.data.toList.take n) _ hx
    have hn : n < t.size := by rw [← show t.data.toList.length = t.size from by rw [Array.length_toList]; rfl]; exact h2
    have e1 : t.extract ((none : Option Int).getD 0).toNat ((some (n : Int)).getD ((t.size : Nat) : Int)).toNat = baL (t.data.toList.take n) := by rw [← sub_take (by omega)]; rfl
    have hw0 : IntKind.i64.wrap ((n : Int) + 0) = (n : Int) := by rw [IntKind.wrap_i64]; omega
    have hw1 : IntKind.i64.wrap ((n : Int) + ((⟨#[c]⟩ : ByteArray).size : Int)) = ((n + 1 : Nat) : Int) := by rw [show ((⟨#[c]⟩ : ByteArray).size : Int) = 1 from rfl, IntKind.wrap_i64]; omega
    have e2 : t.extract ((some (((n + 1 : Nat) : Int))).getD 0).toNat ((none : Option Int).getD ((t.size : Nat) : Int)).toNat = baL (t.data.toList.drop (n + 1)) := by rw [← sub_drop]; rfl
    repeat' (first | (refine And.intro (by first | exact rfl | decide | exact Nat.le_of_ble_eq_true rfl | exact ⟨_, rfl⟩ | exact ⟨_, _, rfl⟩ | exact Nat.le_refl _ | exact Int.le_refl _ | omega | (simp only [List.length_map]; omega) | exact True.intro | (simp only [IntKind.wrap_i64]; omega) | (simp only [Option.getD]; omega) | (simp only [bsz, ByteArray.size_append, List.size_toArray, List.length_cons, List.length_nil]; omega) | exact ⟨⟨_, _, rfl, rfl, Nat.le_of_ble_eq_true rfl⟩, trivial⟩ | exact ⟨⟨_, _, rfl, rfl, Nat.le_of_ble_eq_true rfl⟩, ⟨_, _, rfl, rfl, Nat.le_of_ble_eq_true rfl⟩, trivial⟩ | exact ⟨⟨_, _, rfl, rfl, Nat.le_of_ble_eq_true rfl⟩, ⟨_, _, rfl, rfl, Nat.le_of_ble_eq_true rfl⟩, ⟨_, _, rfl, rfl, Nat.le_of_ble_eq_true rfl⟩, trivial⟩) ?_; conv => whnf) | (refine ifB_intro (fun hA => ?_) (fun hA => ?_) <;> (try rw [hA]) <;> (conv => whnf) <;> (first | replace hA := of_decide_eq_true hA | replace hA := of_decide_eq_false hA | replace hA := eq_of_beq hA | replace hA := ne_of_beq_false hA | replace hA := bne_iff_ne.1 hA | replace hA := bne_eq_false_iff_eq.1 hA | skip) <;> (try simp only [List.length_map, cond_true, cond_false, Bool.not_eq_true', Bool.not_eq_false', beq_iff_eq, beq_eq_false_iff_ne, ne_eq] at hA)) | (refine CallP.det (hi) ?_; conv => whnf) | (refine CallD.det (hi) ?_; conv => whnf) | (rw [hw0]; conv => whnf) | (rw [hw1]; conv => whnf) | (refine And.intro (show (0 : Int) ≤ (n : Int) by omega) ?_; conv => whnf) | (refine And.intro (show (n : Int) ≤ (t.size : Int) by omega) ?_; conv => whnf) | (rw [e1]; conv => whnf) | (rw [e2]; conv => whnf) | (refine And.intro (show ((n + 1 : Nat) : Int) ≤ (t.size : Int) by omega) ?_; conv => whnf) | (refine YieldP.two (hy) (by (conv => whnf); repeat' first | exact trivial | refine And.intro (fun _ h => h) ?_) rfl rfl ?_ ?_ <;> conv => whnf) | (rw [getD_map _ _ _ _ (by assumption)]; conv => whnf))
    · refine ⟨(pre ++ [t.data.toList.take n], baL (t.data.toList.drop (n + 1))), ⟨?_, ?_⟩, ?_, ⟨⟨rfl, rfl, rfl, rfl, trivial⟩, ⟨fun o h => h, fun o h => h, fun o h => h, fun o h => h, trivial⟩⟩⟩
      · rw [hx]; simp [baL]
      · have : (baL (t.data.toList.drop (n + 1))).size = t.size - (n + 1) := by simp [baL, bsz]
        show (baL (t.data.toList.drop (n + 1))).size ≤ s.size
        omega
      · have : (baL (t.data.toList.drop (n + 1))).size = t.size - (n + 1) := by simp [baL, bsz]
        show (baL (t.data.toList.drop (n + 1))).size < t.size
        omega
    · refine ⟨⟨[(9009, some (.gst K h0 Rx))], ?_⟩⟩
      conv => whnf
      repeat' (first | (refine And.intro (by first | exact rfl | decide | exact Nat.le_of_ble_eq_true rfl | exact ⟨_, rfl⟩ | exact ⟨_, _, rfl⟩ | exact Nat.le_refl _ | exact Int.le_refl _ | omega | (simp only []; omega) | exact True.intro | (simp only []; omega) | (simp only []; omega) | (simp only []; omega) | exact ⟨⟨_, _, rfl, rfl, Nat.le_of_ble_eq_true rfl⟩, trivial⟩ | exact ⟨⟨_, _, rfl, rfl, Nat.le_of_ble_eq_true rfl⟩, ⟨_, _, rfl, rfl, Nat.le_of_ble_eq_true rfl⟩, trivial⟩ | exact ⟨⟨_, _, rfl, rfl, Nat.le_of_ble_eq_true rfl⟩, ⟨_, _, rfl, rfl, Nat.le_of_ble_eq_true rfl⟩, ⟨_, _, rfl, rfl, Nat.le_of_ble_eq_true rfl⟩, trivial⟩) ?_; conv => whnf) | (refine ifB_intro (fun hA => ?_) (fun hA => ?_) <;> (try rw [hA]) <;> (conv => whnf) <;> (first | replace hA := of_decide_eq_true hA | replace hA := of_decide_eq_false hA | replace hA := eq_of_beq hA | replace hA := ne_of_beq_false hA | replace hA := bne_iff_ne.1 hA | replace hA := bne_eq_false_iff_eq.1 hA | skip) <;> (try simp only [List.length_map, cond_true, cond_false, Bool.not_eq_true', Bool.not_eq_false', beq_iff_eq, beq_eq_false_iff_ne, ne_eq] at hA)) | (refine And.intro ⟨fun o h => h, trivial⟩ ?_; conv => whnf) | (rw [getD_map _ _ _ _ (by assumption)]; conv => whnf))
      exact ⟨_, .inr rfl⟩
end Go.Ax

namespace Go.Ax
theorem Ctr.swapG {E : Env} {f : FuncId} {args : List AV} {hin : HL} {post post' : AOut → Prop} (a b : Nat) (h : Ctr E f args hin post) (hr : ∀ res ho, post (.ret res ho) → post' (.ret (res.swap a b) (HL.swap a b ho))) (hp : ∀ ch ho, post (.pan ch ho) → post' (.pan ch (HL.swap a b ho))) : Ctr E f (AV.swapL a b args) (HL.swap a b hin) post' := by
  refine ⟨h.1, fun w Im ρ vs hG hIm hgl hsz hra hrel => ?_⟩
  -- the names as the contract has them
  have back : ∀ x : AV, (x.swap a b).swap a b = x := by
    intro x
    induction x using AV.rec (motive_2 := fun l => AV.swapL a b (AV.swapL a b l) = l) with
    | junk => rfl
    | d x => rfl
    | dagg cs => rfl
    | agg cs ih => simp [AV.swap, ih]
    | tup cs ih => simp [AV.swap, ih]
    | ptr q off => simp [AV.swap, swp_swp]
    | ep cs => rfl
    | msl q n off len => simp [AV.swap, swp_swp]
    | mptr q n i j => simp [AV.swap, swp_swp]
    | mp q => simp [AV.swap, swp_swp]
    | clo fn f c ih1 ih2 => simp [AV.swap, ih1, ih2]
    | ifc t x ih => simp [AV.swap, ih]
    | nil => rfl
    | cons x xs ih1 ih2 => simp [AV.swapL, ih1, ih2]
  have backO : ∀ o : AObj, (o.swap a b).swap a b = o := fun o => by
    cases o with
    | var cs =>
      have : ∀ l : List AV, AV.swapL a b (AV.swapL a b l) = l := fun l => by induction l with
        | nil => rfl
        | cons x xs ih => simp [AV.swapL, ih, back]
      simp [AObj.swap, this]
    | _ => rfl
  have hρ : ∀ r, (fun q => ρ (swp a b q)) (swp a b r) = ρ r := fun r => by simp only [swp_swp]
  have hT : ∀ bk, TIn (fun q => ρ (swp a b q)) hin bk → TIn ρ (HL.swap a b hin) bk := fun bk ⟨r, o, l, h1, h2, h3⟩ => ⟨swp a b r, o.swap a b, l, by rw [lkH_swap, h1]; rfl, h2, h3⟩
  have hT' : ∀ bk, TIn ρ (HL.swap a b hin) bk → TIn (fun q => ρ (swp a b q)) hin bk := fun bk ⟨r, o, l, h1, h2, h3⟩ => by
    obtain ⟨o', h4, _⟩ := lkH_unswap h1
    exact ⟨swp a b r, o', l, h4, by simp only [swp_swp]; exact h2, h3⟩
  have := h.2 w Im (fun q => ρ (swp a b q)) vs hG hIm hgl (by rw [hsz, swapL_length]) (fun i v x h1 h2 => by
    have h3 := hra i v (x.swap a b) h1 (by rw [swapL_get, h2]; rfl)
    have h4 := h3.swap (ρ' := fun q => ρ (swp a b q)) a b hρ
    rw [back] at h4; exact h4) ⟨fun r o hr => by
      obtain ⟨l, h1, h2, h3⟩ := hrel.obj (swp a b r) (o.swap a b) (by rw [lkH_swap, hr]; rfl)
      have h4 := h2.swap (ρ' := fun q => ρ (swp a b q)) a b hρ
      rw [backO] at h4
      exact ⟨l, h1, h4, h3⟩, fun r r' o o' l l' h1 h2 hne g1 g2 => hrel.dis (swp a b r) (swp a b r') (o.swap a b) (o'.swap a b) l l' (by rw [lkH_swap, h1]; rfl) (by rw [lkH_swap, h2]; rfl) (fun e => hne (swp_inj e)) g1 g2⟩
  have aft : ∀ (w' : World) (Im' : Nat → Prop) (ρ' : Nat → Option Loc) (ho' : HL), After w Im (fun q => ρ (swp a b q)) hin w' Im' ρ' ho' → After w Im ρ (HL.swap a b hin) w' Im' (fun q => ρ' (swp a b q)) (HL.swap a b ho') := fun w' Im' ρ' ho' A => by
    have hρ' : ∀ r, (fun q => ρ' (swp a b q)) (swp a b r) = ρ' r := fun r => by simp only [swp_swp]
    refine ⟨⟨A.grows.size, A.grows.os, A.grows.tape, A.grows.output, fun bk hb hn => A.grows.block bk hb fun h => hn (hT bk h)⟩, A.im, fun bk hb => ⟨(A.imn bk hb).1, (A.imn bk hb).2.imp id fun h => h.imp id (hT bk)⟩, ⟨fun r o hr => ?_, fun r r' o o' l l' h1 h2 hne g1 g2 => ?_⟩, fun r o hr l' hl' => ?_, fun r o hr q hq => ?_⟩
    · obtain ⟨o', h4, rfl⟩ := lkH_unswap hr
      obtain ⟨l, h5, h6, h7⟩ := A.rel.obj _ o' h4
      exact ⟨l, h5, h6.swap a b hρ', fun bk hb => ⟨(h7 bk hb).1, (h7 bk hb).2.1, (h7 bk hb).2.2.imp id (hT bk)⟩⟩
    · obtain ⟨o1, h4, _⟩ := lkH_unswap h1
      obtain ⟨o2, h5, _⟩ := lkH_unswap h2
      exact A.rel.dis _ _ o1 o2 l l' h4 h5 (fun e => hne (swp_inj e)) g1 g2
    · obtain ⟨o', h4, _⟩ := lkH_unswap hr
      obtain ⟨l, h5, h6⟩ := A.anc _ o' h4 l' hl'
      simp only [swp_swp] at h5
      exact ⟨l, h5, h6⟩
    · obtain ⟨o', h4, rfl⟩ := lkH_unswap hr
      rw [mentO_swap] at hq
      have := A.cl _ o' h4 _ hq
      rw [← swp_swp a b q, lkH_swap]
      simpa using this
  refine this.mono fun e w' he => ?_
  cases e with
  | returned v =>
    obtain ⟨res', ho', Im', ρ', h1, h2, h3, A⟩ := he
    have hρ' : ∀ r, (fun q => ρ' (swp a b q)) (swp a b r) = ρ' r := fun r => by simp only [swp_swp]
    refine ⟨_, _, Im', fun q => ρ' (swp a b q), hr _ _ h1, h2.swap a b hρ', fun r hr => ?_, aft _ _ _ _ A⟩
    rw [ment_swap] at hr
    have := h3 _ hr
    rw [← swp_swp a b r, lkH_swap]
    simpa using this
  | panicked ch =>
    obtain ⟨ho', Im', ρ', h1, A⟩ := he
    exact ⟨_, Im', fun q => ρ' (swp a b q), hp _ _ h1, aft _ _ _ _ A⟩
  | outgrown => exact he
end Go.Ax

namespace Go.Ax
variable {X : Ax} {k : Kn}
def badO : AObj := .ext fun _ _ => False
theorem Sim.bad {c : Cx} {Im : Nat → Prop} {ρ : Nat → Option Loc} {F : Nat → AV} {H : Nat → Option AObj} {a : Act} {w : World} (S : Sim c Im ρ F H a w) {q : Nat} (h : H q = some badO) : False := by
  obtain ⟨l, _, h1, _⟩ := S.obj q badO h
  exact h1.2.2.2
theorem AWp.bad {E : Env} {code : Code} {Q : APost} {s : St} (q : Nat) (h : lkH q s.h = some badO) : AWp E k code Q s := fun _ _ _ _ _ _ _ _ S => (S.bad h).elim
theorem AWp.unbad {E : Env} {code : Code} {Q : APost} {s : St} (q : Nat) (h : AWp E k code (fun e s => Q e s ∨ lkH q s.h = some badO) s) : AWp E k code Q s := fun c ok h1 h2 Im ρ a w S =>
  wpIn_mono (h c ok h1 h2 Im ρ a w S) fun e a w hq => by
    obtain ⟨h3, Im', ρ', s', S', h4⟩ := hq
    rcases h4 with h4 | h4
    · exact ⟨h3, Im', ρ', s', S', h4⟩
    · exact (S'.bad h4).elim
def roundI (f0 : List (Nat × AV)) (p : Prop) (h1 : HL) (Q : APost) : APost
  | .normal, s => p ∧ LeH h1 s.h
  | .ret, s => lkH TOP s.h = none ∧ Q .ret { f := f0, h := s.h }
  | .exit id, s => lkH TOP s.h = none ∧ Q (.exit id) { f := f0, h := s.h }
  | _, _ => False
open Classical in
theorem OtherP.rangeI {α : Type} {enc : α → Value} {tg p : Nat} {assign body : Code} {Q : APost} {s : St} {gf : FuncId} {caps : List AV} (hin : HL) (xs : List α) (inv : List α → HL) (I : List α → Prop) (ids : List Nat) (f0 : List (Nat × AV))
    (hT : k.anc.contains TOP = true) (htg : Nat.blt tg k.nt = true) (hp1 : Nat.blt p k.nt = true) (hg : lk tg s.f = .clo (.func gf) [] caps) (hit : IterC X.E gf caps hin enc xs) (hu : unmB k.anc 9009 s = true)
    (hhin : LeH hin s.h) (hI : I []) (hinv : LeH (inv []) s.h) (hsep : (inv []).all (fun q => (lkH q.1 hin).isNone) = true) (hf0 : LeF f0 s.f) (hcl : f0.all (fun q => plain ids q.2) = true)
    (hids : k.anc.all (fun r => Nat.beq r TOP || ids.contains r) = true) (htop : ids.contains TOP = false) (hinvT : ∀ pre, lkH TOP (inv pre) = none)
    (hround : ∀ pre x post, xs = pre ++ x :: post → I pre → wpc X.E X.tab { nt := k.nt, anc := ids } assign (thenP (fun s1 => wpc X.E X.tab { nt := k.nt, anc := ids } body (roundI f0 (I (pre ++ [x])) (inv (pre ++ [x])) Q) s1) (fun _ _ => False)) { f := (p, .d (.v (enc x))) :: f0, h := inv pre })
    (hdone : I xs → Q .normal { f := f0, h := inv xs }) : OtherP X.E k (.rangeFunc (.tmp tg) #[p] assign body) Q s :=
  ⟨AWp.unbad 9010 <| .rangeFunc hin xs (fun pre => if I pre then inv pre else [(9010, some badO)]) ids f0 (by simpa using hT) (by simpa using htg) (by simpa using hp1) hg hit hu (fun r o h => LeH.at hhin r o h)
    (fun r o h => by
      simp only [if_pos hI] at h
      exact ⟨LeH.at hinv r o h, by
        obtain ⟨q, h1, h2⟩ := lkH_mem h
        have h3 := List.all_eq_true.1 hsep q h1
        rw [h2] at h3
        simpa using h3⟩)
    (fun t => LeF.at hf0 t) (plain_lk hcl) (fun r hr => by
      have h1 := List.all_eq_true.1 hids r hr
      rcases Bool.or_eq_true_iff.1 h1 with h | h
      · exact .inl (Nat.eq_of_beq_eq_true h)
      · exact .inr (by simpa using h)) (by simpa using htop) (fun pre => by
      split
      · exact hinvT pre
      · rfl)
    (fun pre x post h => by
      by_cases hb : I pre
      · rw [if_pos hb]
        exact AWp.mono (wpc_ok (hround pre x post h hb)) fun e s hq => by
          cases e with
          | normal =>
            refine AWp.mono (wpc_ok hq) fun e s hq => ?_
            cases e with
            | normal =>
              show LeH _ s.h
              rw [if_pos hq.1]; exact hq.2
            | ret => exact ⟨hq.1, .inl hq.2⟩
            | exit id => exact ⟨hq.1, .inl hq.2⟩
            | _ => exact hq.elim
          | _ => exact hq.elim
      · rw [if_neg hb]
        exact AWp.bad 9010 rfl)
    (by
      by_cases hb : I xs
      · rw [if_pos hb]; exact .inl (hdone hb)
      · rw [if_neg hb]; exact .inr rfl)⟩
end Go.Ax
