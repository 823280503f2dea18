import Derived.Test.YtjokajidcojlmaaDoorEAxRf
import Derived.Test.YtjokajidcojlmaaDoorEAxV
import Derived.Test.YtjokajidcojlmaaDoorEAxEnv
import Derived.Lib.Index
import Derived.Test.YtjokajidcojlmaaDoorEAxCh

/- strings.SplitSeq by one byte: what it hands to a loop. -/
namespace Go.Ax
open Go.Proofs Go.Lib
set_option maxRecDepth 10000

/-- A text's pieces between single bytes. -/
def splitL (c : UInt8) : List UInt8 → List (List UInt8)
  | [] => [[]]
  | b :: r => if c = b then [] :: splitL c r else match splitL c r with
    | [] => [[b]]
    | p :: ps => (b :: p) :: ps
theorem splitL_ne (c : UInt8) : ∀ l, splitL c l ≠ []
  | [] => by simp [splitL]
  | b :: r => by
    rw [splitL]
    split
    · simp
    · split <;> simp
theorem index_one (c : UInt8) : ∀ l : List UInt8, (index l [c] = -1 ∧ splitL c l = [l]) ∨ ∃ n : Nat, index l [c] = n ∧ n < l.length ∧ splitL c l = l.take n :: splitL c (l.drop (n + 1))
  | [] => .inl ⟨rfl, rfl⟩
  | b :: r => by
    rw [index, splitL]
    by_cases h : c = b
    · subst h
      right
      exact ⟨0, by simp, by simp, by simp⟩
    · have hp : [c].isPrefixOf (b :: r) = false := by simp [List.isPrefixOf, h]
      rw [hp, if_neg h]
      simp only [Bool.false_eq_true, if_false]
      rcases index_one c r with ⟨h1, h2⟩ | ⟨n, h1, h2, h3⟩
      · left
        rw [h1, h2]; exact ⟨rfl, rfl⟩
      · right
        rw [h1, h3]
        have hn : ((n : Int) == -1) = false := by rw [beq_eq_false_iff_ne]; omega
        refine ⟨n + 1, ?_, by simp; omega, by simp⟩
        simp only [hn, Bool.false_eq_true, if_false]; rfl

def baL (l : List UInt8) : ByteArray := ⟨l.toArray⟩
def boxH (s : ByteArray) (c : UInt8) : HL := [(9103, some (.dvar 1 [.v (.string s)])), (9104, some (.dvar 1 [.v (.string ⟨#[c]⟩)])), (9105, some (.dvar 1 [.i64 0]))]
theorem sub_take {s : ByteArray} {n : Nat} (h : n ≤ s.size) : s.extract 0 n = baL (s.data.toList.take n) := by
  apply ByteArray.ext
  rw [baL, ByteArray.data_extract]
  apply Array.ext'
  rw [Array.toList_extract, List.extract_eq_take_drop, List.drop_zero, Nat.sub_zero]
theorem sub_drop {s : ByteArray} {n : Nat} : s.extract n s.size = baL (s.data.toList.drop n) := by
  apply ByteArray.ext
  rw [baL, ByteArray.data_extract]
  apply Array.ext'
  rw [Array.toList_extract, List.extract_eq_take_drop, List.take_of_length_le (by rw [List.length_drop, show s.data.toList.length = s.size from by rw [Array.length_toList]; rfl]; omega)]

theorem split_iter (g : GP) (c : UInt8) (hI : ∀ s : ByteArray, Ctr (ax g).E 165 [.str s, .str ⟨#[c]⟩] [] (fun o => o = .ret (.i64 (index s.data.toList [c])) [])) (s : ByteArray) (hs : s.size < 2 ^ 62) :
    IterC (ax g).E 164 [.ptr 9104 0, .ptr 9103 0, .ptr 9105 0] (boxH s c) (fun l : List UInt8 => Value.string (baL l)) (splitL c s.data.toList) := by
  intro l K h0 R Rx hY
  refine Ctr.body (X := ax g) _ 52 [9009, 9103, 9104, 9105] [] Tryd.func164 rfl rfl rfl rfl (by decide +kernel) rfl rfl ?_
  conv => whnf
  repeat' (first | (refine And.intro (by first | exact rfl | decide | exact Nat.le_of_ble_eq_true rfl | exact ⟨_, rfl⟩ | exact ⟨_, _, rfl⟩ | exact Nat.le_refl _ | exact Int.le_refl _ | omega | (simp only [List.length_map]; omega) | exact True.intro | (simp only [IntKind.wrap_i64, List.length_map]; omega) | (simp only [List.map_cons, List.map_nil, List.length_cons, Option.getD]; omega) | (simp only [bsz, ByteArray.size_append, List.size_toArray, List.length_cons, List.length_nil]; omega) | exact ⟨⟨_, _, rfl, rfl, Nat.le_of_ble_eq_true rfl⟩, trivial⟩ | exact ⟨⟨_, _, rfl, rfl, Nat.le_of_ble_eq_true rfl⟩, ⟨_, _, rfl, rfl, Nat.le_of_ble_eq_true rfl⟩, trivial⟩ | exact ⟨⟨_, _, rfl, rfl, Nat.le_of_ble_eq_true rfl⟩, ⟨_, _, rfl, rfl, Nat.le_of_ble_eq_true rfl⟩, ⟨_, _, rfl, rfl, Nat.le_of_ble_eq_true rfl⟩, trivial⟩) ?_; conv => whnf) | (refine ifB_intro (fun hA => ?_) (fun hA => ?_) <;> (try rw [hA]) <;> (conv => whnf) <;> (first | replace hA := of_decide_eq_true hA | replace hA := of_decide_eq_false hA | replace hA := eq_of_beq hA | replace hA := ne_of_beq_false hA | replace hA := bne_iff_ne.1 hA | replace hA := bne_eq_false_iff_eq.1 hA | skip) <;> (try simp only [List.length_map, cond_true, cond_false, Bool.not_eq_true', Bool.not_eq_false', beq_iff_eq, beq_eq_false_iff_ne, ne_eq] at hA)) | (rw [getD_map _ _ _ _ (by assumption)]; conv => whnf))
  refine LoopP.inv (X := ax g) (fun x : List (List UInt8) × ByteArray => { f := [(0, .clo (.yield l) [] []), (1, .ptr 9104 0), (2, .ptr 9103 0), (3, .ptr 9105 0)], h := (9009, some (.gst K h0 (R x.1))) :: boxH x.2 c }) (fun x => splitL c s.data.toList = x.1 ++ splitL c x.2.data.toList ∧ x.2.size ≤ s.size) (fun x => x.2.size) ([], s) ⟨rfl, Nat.le_refl _⟩ ⟨⟨rfl, rfl, rfl, rfl, trivial⟩, ⟨fun o h => h, fun o h => h, fun o h => h, fun o h => h, trivial⟩⟩ fun ⟨pre, t⟩ ⟨he, ht⟩ => ?_
  dsimp only at he ht ⊢
  have hi := hI t
  conv => whnf
  rcases index_one c t.data.toList with ⟨h1, h2⟩ | ⟨n, h1, h2, h3⟩
  · rw [h1] at hi
    have hx : splitL c s.data.toList = pre ++ t.data.toList :: [] := by rw [he, h2]
    have hy := hY pre t.data.toList [] hx
    rw [show (fun l : List UInt8 => Value.string (baL l)) t.data.toList = Value.string t from by show Value.string ⟨t.data.toList.toArray⟩ = _; cases t; simp] at hy
    rw [← hx] at hy
    repeat' (first | (refine And.intro (by first | exact rfl | decide | exact Nat.le_of_ble_eq_true rfl | exact ⟨_, rfl⟩ | exact ⟨_, _, rfl⟩ | exact Nat.le_refl _ | exact Int.le_refl _ | omega | (simp only [List.length_map]; omega) | exact True.intro | (simp only [IntKind.wrap_i64, List.length_map]; omega) | (simp only [List.map_cons, List.map_nil, List.length_cons, Option.getD]; omega) | (simp only [bsz, ByteArray.size_append, List.size_toArray, List.length_cons, List.length_nil]; omega) | exact ⟨⟨_, _, rfl, rfl, Nat.le_of_ble_eq_true rfl⟩, trivial⟩ | exact ⟨⟨_, _, rfl, rfl, Nat.le_of_ble_eq_true rfl⟩, ⟨_, _, rfl, rfl, Nat.le_of_ble_eq_true rfl⟩, trivial⟩ | exact ⟨⟨_, _, rfl, rfl, Nat.le_of_ble_eq_true rfl⟩, ⟨_, _, rfl, rfl, Nat.le_of_ble_eq_true rfl⟩, ⟨_, _, rfl, rfl, Nat.le_of_ble_eq_true rfl⟩, trivial⟩) ?_; conv => whnf) | (refine ifB_intro (fun hA => ?_) (fun hA => ?_) <;> (try rw [hA]) <;> (conv => whnf) <;> (first | replace hA := of_decide_eq_true hA | replace hA := of_decide_eq_false hA | replace hA := eq_of_beq hA | replace hA := ne_of_beq_false hA | replace hA := bne_iff_ne.1 hA | replace hA := bne_eq_false_iff_eq.1 hA | skip) <;> (try simp only [List.length_map, cond_true, cond_false, Bool.not_eq_true', Bool.not_eq_false', beq_iff_eq, beq_eq_false_iff_ne, ne_eq] at hA)) | (refine CallP.det (hi) ?_; conv => whnf) | (refine CallD.det (hi) ?_; conv => whnf) | (refine YieldP.two (hy) (by (conv => whnf); repeat' first | exact trivial | refine And.intro (fun _ h => h) ?_) rfl rfl ?_ ?_ <;> conv => whnf) | (rw [getD_map _ _ _ _ (by assumption)]; conv => whnf))
    · refine ⟨⟨[(9009, some (.gst K h0 (R (splitL c s.data.toList))))], ?_⟩⟩
      conv => whnf
      repeat' (first | (refine And.intro (by first | exact rfl | decide | exact Nat.le_of_ble_eq_true rfl | exact ⟨_, rfl⟩ | exact ⟨_, _, rfl⟩ | exact Nat.le_refl _ | exact Int.le_refl _ | omega | (simp only []; omega) | exact True.intro | (simp only []; omega) | (simp only []; omega) | (simp only []; omega) | exact ⟨⟨_, _, rfl, rfl, Nat.le_of_ble_eq_true rfl⟩, trivial⟩ | exact ⟨⟨_, _, rfl, rfl, Nat.le_of_ble_eq_true rfl⟩, ⟨_, _, rfl, rfl, Nat.le_of_ble_eq_true rfl⟩, trivial⟩ | exact ⟨⟨_, _, rfl, rfl, Nat.le_of_ble_eq_true rfl⟩, ⟨_, _, rfl, rfl, Nat.le_of_ble_eq_true rfl⟩, ⟨_, _, rfl, rfl, Nat.le_of_ble_eq_true rfl⟩, trivial⟩) ?_; conv => whnf) | (refine ifB_intro (fun hA => ?_) (fun hA => ?_) <;> (try rw [hA]) <;> (conv => whnf) <;> (first | replace hA := of_decide_eq_true hA | replace hA := of_decide_eq_false hA | replace hA := eq_of_beq hA | replace hA := ne_of_beq_false hA | replace hA := bne_iff_ne.1 hA | replace hA := bne_eq_false_iff_eq.1 hA | skip) <;> (try simp only [List.length_map, cond_true, cond_false, Bool.not_eq_true', Bool.not_eq_false', beq_iff_eq, beq_eq_false_iff_ne, ne_eq] at hA)) | (refine And.intro ⟨fun o h => h, trivial⟩ ?_; conv => whnf) | (rw [getD_map _ _ _ _ (by assumption)]; conv => whnf))
      exact ⟨_, .inl rfl⟩
    · refine ⟨⟨[(9009, some (.gst K h0 Rx))], ?_⟩⟩
      conv => whnf
      repeat' (first | (refine And.intro (by first | exact rfl | decide | exact Nat.le_of_ble_eq_true rfl | exact ⟨_, rfl⟩ | exact ⟨_, _, rfl⟩ | exact Nat.le_refl _ | exact Int.le_refl _ | omega | (simp only []; omega) | exact True.intro | (simp only []; omega) | (simp only []; omega) | (simp only []; omega) | exact ⟨⟨_, _, rfl, rfl, Nat.le_of_ble_eq_true rfl⟩, trivial⟩ | exact ⟨⟨_, _, rfl, rfl, Nat.le_of_ble_eq_true rfl⟩, ⟨_, _, rfl, rfl, Nat.le_of_ble_eq_true rfl⟩, trivial⟩ | exact ⟨⟨_, _, rfl, rfl, Nat.le_of_ble_eq_true rfl⟩, ⟨_, _, rfl, rfl, Nat.le_of_ble_eq_true rfl⟩, ⟨_, _, rfl, rfl, Nat.le_of_ble_eq_true rfl⟩, trivial⟩) ?_; conv => whnf) | (refine ifB_intro (fun hA => ?_) (fun hA => ?_) <;> (try rw [hA]) <;> (conv => whnf) <;> (first | replace hA := of_decide_eq_true hA | replace hA := of_decide_eq_false hA | replace hA := eq_of_beq hA | replace hA := ne_of_beq_false hA | replace hA := bne_iff_ne.1 hA | replace hA := bne_eq_false_iff_eq.1 hA | skip) <;> (try simp only [List.length_map, cond_true, cond_false, Bool.not_eq_true', Bool.not_eq_false', beq_iff_eq, beq_eq_false_iff_ne, ne_eq] at hA)) | (refine And.intro ⟨fun o h => h, trivial⟩ ?_; conv => whnf) | (rw [getD_map _ _ _ _ (by assumption)]; conv => whnf))
      exact ⟨_, .inr rfl⟩
  · rw [h1] at hi
    have hx : splitL c s.data.toList = pre ++ t.data.toList.take n :: splitL c (t.data.toList.drop (n + 1)) := by rw [he, h3]
    have hy := hY pre (t.data.toList.take n) _ hx
    have hn : n < t.size := by rw [← show t.data.toList.length = t.size from by rw [Array.length_toList]; rfl]; exact h2
    have e1 : t.extract ((none : Option Int).getD 0).toNat ((some (n : Int)).getD ((t.size : Nat) : Int)).toNat = baL (t.data.toList.take n) := by rw [← sub_take (by omega)]; rfl
    have hw0 : IntKind.i64.wrap ((n : Int) + 0) = (n : Int) := by rw [IntKind.wrap_i64]; omega
    have hw1 : IntKind.i64.wrap ((n : Int) + ((⟨#[c]⟩ : ByteArray).size : Int)) = ((n + 1 : Nat) : Int) := by rw [show ((⟨#[c]⟩ : ByteArray).size : Int) = 1 from rfl, IntKind.wrap_i64]; omega
    have e2 : t.extract ((some (((n + 1 : Nat) : Int))).getD 0).toNat ((none : Option Int).getD ((t.size : Nat) : Int)).toNat = baL (t.data.toList.drop (n + 1)) := by rw [← sub_drop]; rfl
    repeat' (first | (refine And.intro (by first | exact rfl | decide | exact Nat.le_of_ble_eq_true rfl | exact ⟨_, rfl⟩ | exact ⟨_, _, rfl⟩ | exact Nat.le_refl _ | exact Int.le_refl _ | omega | (simp only [List.length_map]; omega) | exact True.intro | (simp only [IntKind.wrap_i64]; omega) | (simp only [Option.getD]; omega) | (simp only [bsz, ByteArray.size_append, List.size_toArray, List.length_cons, List.length_nil]; omega) | exact ⟨⟨_, _, rfl, rfl, Nat.le_of_ble_eq_true rfl⟩, trivial⟩ | exact ⟨⟨_, _, rfl, rfl, Nat.le_of_ble_eq_true rfl⟩, ⟨_, _, rfl, rfl, Nat.le_of_ble_eq_true rfl⟩, trivial⟩ | exact ⟨⟨_, _, rfl, rfl, Nat.le_of_ble_eq_true rfl⟩, ⟨_, _, rfl, rfl, Nat.le_of_ble_eq_true rfl⟩, ⟨_, _, rfl, rfl, Nat.le_of_ble_eq_true rfl⟩, trivial⟩) ?_; conv => whnf) | (refine ifB_intro (fun hA => ?_) (fun hA => ?_) <;> (try rw [hA]) <;> (conv => whnf) <;> (first | replace hA := of_decide_eq_true hA | replace hA := of_decide_eq_false hA | replace hA := eq_of_beq hA | replace hA := ne_of_beq_false hA | replace hA := bne_iff_ne.1 hA | replace hA := bne_eq_false_iff_eq.1 hA | skip) <;> (try simp only [List.length_map, cond_true, cond_false, Bool.not_eq_true', Bool.not_eq_false', beq_iff_eq, beq_eq_false_iff_ne, ne_eq] at hA)) | (refine CallP.det (hi) ?_; conv => whnf) | (refine CallD.det (hi) ?_; conv => whnf) | (rw [hw0]; conv => whnf) | (rw [hw1]; conv => whnf) | (refine And.intro (show (0 : Int) ≤ (n : Int) by omega) ?_; conv => whnf) | (refine And.intro (show (n : Int) ≤ (t.size : Int) by omega) ?_; conv => whnf) | (rw [e1]; conv => whnf) | (rw [e2]; conv => whnf) | (refine And.intro (show ((n + 1 : Nat) : Int) ≤ (t.size : Int) by omega) ?_; conv => whnf) | (refine YieldP.two (hy) (by (conv => whnf); repeat' first | exact trivial | refine And.intro (fun _ h => h) ?_) rfl rfl ?_ ?_ <;> conv => whnf) | (rw [getD_map _ _ _ _ (by assumption)]; conv => whnf))
    · refine ⟨(pre ++ [t.data.toList.take n], baL (t.data.toList.drop (n + 1))), ⟨?_, ?_⟩, ?_, ⟨⟨rfl, rfl, rfl, rfl, trivial⟩, ⟨fun o h => h, fun o h => h, fun o h => h, fun o h => h, trivial⟩⟩⟩
      · rw [hx]; simp [baL]
      · have : (baL (t.data.toList.drop (n + 1))).size = t.size - (n + 1) := by simp [baL, bsz]
        show (baL (t.data.toList.drop (n + 1))).size ≤ s.size
        omega
      · have : (baL (t.data.toList.drop (n + 1))).size = t.size - (n + 1) := by simp [baL, bsz]
        show (baL (t.data.toList.drop (n + 1))).size < t.size
        omega
    · refine ⟨⟨[(9009, some (.gst K h0 Rx))], ?_⟩⟩
      conv => whnf
      repeat' (first | (refine And.intro (by first | exact rfl | decide | exact Nat.le_of_ble_eq_true rfl | exact ⟨_, rfl⟩ | exact ⟨_, _, rfl⟩ | exact Nat.le_refl _ | exact Int.le_refl _ | omega | (simp only []; omega) | exact True.intro | (simp only []; omega) | (simp only []; omega) | (simp only []; omega) | exact ⟨⟨_, _, rfl, rfl, Nat.le_of_ble_eq_true rfl⟩, trivial⟩ | exact ⟨⟨_, _, rfl, rfl, Nat.le_of_ble_eq_true rfl⟩, ⟨_, _, rfl, rfl, Nat.le_of_ble_eq_true rfl⟩, trivial⟩ | exact ⟨⟨_, _, rfl, rfl, Nat.le_of_ble_eq_true rfl⟩, ⟨_, _, rfl, rfl, Nat.le_of_ble_eq_true rfl⟩, ⟨_, _, rfl, rfl, Nat.le_of_ble_eq_true rfl⟩, trivial⟩) ?_; conv => whnf) | (refine ifB_intro (fun hA => ?_) (fun hA => ?_) <;> (try rw [hA]) <;> (conv => whnf) <;> (first | replace hA := of_decide_eq_true hA | replace hA := of_decide_eq_false hA | replace hA := eq_of_beq hA | replace hA := ne_of_beq_false hA | replace hA := bne_iff_ne.1 hA | replace hA := bne_eq_false_iff_eq.1 hA | skip) <;> (try simp only [List.length_map, cond_true, cond_false, Bool.not_eq_true', Bool.not_eq_false', beq_iff_eq, beq_eq_false_iff_ne, ne_eq] at hA)) | (refine And.intro ⟨fun o h => h, trivial⟩ ?_; conv => whnf) | (rw [getD_map _ _ _ _ (by assumption)]; conv => whnf))
      exact ⟨_, .inr rfl⟩

end Go.Ax
