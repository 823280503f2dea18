import Derived.Test.YtjokajidcojlmaaDoorCAxLx
import Derived.Shelf.Unicode.DecodeLastEight
import Derived.Lib.RuneCount

namespace Go.Ax
open Go.Proofs Go.Lib
set_option maxRecDepth 10000

/-- Tokens, or an error. -/
def stepF (s : ByteArray) : PieceT :=
  let k := classF (Lib.decodeGo s).1
  if k = 2 then wordF s else if k = 3 then numberF s else if k = 5 then markF s else errP 10
def tokGo : Nat → ByteArray → List TokT → Option (List TokT) × Int
  | 0, _, _ => (none, 0)
  | f + 1, s, acc => if s.size = 0 then (some (acc ++ [noTok]), 0) else
    if classF (Lib.decodeGo s).1 = 0 then tokGo f (s.extract (Lib.decodeGo s).2 s.size) acc else
    if classF (Lib.decodeGo s).1 = 1 then tokGo f (s.extract (runF (· != 10) s s.size 0) s.size) acc else
    if (stepF s).e ≠ 0 then (none, (stepF s).e) else tokGo f (s.extract (stepF s).n.toNat s.size) (acc ++ [(stepF s).t])
def tokensF (V : ByteArray → Bool) (s : ByteArray) : Option (List TokT) × Int :=
  if 4000 < s.size then (none, 2) else if V s = false then (none, 10) else tokGo (s.size + 1) s []
def tokAV : Option (List TokT) × Int → AV
  | (some l, e) => .tup [.d (.sl false 3 (l.map rowK)), .i64 e]
  | (none, e) => .tup [.d (.v (.slice none 0 0)), .i64 e]

theorem runF_ge (p : Int → Bool) (s : ByteArray) : ∀ (f pos : Nat), min pos s.size ≤ runF p s f pos
  | 0, pos => by simp only [runF]; omega
  | f + 1, pos => by
    simp only [runF]
    split
    · split
      · have := runF_ge p s f (pos + runeW s pos)
        omega
      · omega
    · omega
theorem runF_pos (p : Int → Bool) (s : ByteArray) (h : 0 < s.size) (hp : p (runeAt s 0) = true) : 1 ≤ runF p s s.size 0 := by
  obtain ⟨f, hf⟩ : ∃ f, s.size = f + 1 := ⟨s.size - 1, by omega⟩
  conv => rhs; arg 3; rw [hf]
  simp only [runF, if_pos h, hp, if_true, Nat.zero_add]
  have := runF_ge p s f (runeW s 0)
  have := runeW_pos s 0 h
  omega
theorem decodeGo_rune {s : ByteArray} (h : 0 < s.size) : (Lib.decodeGo s).1 = runeAt s 0 ∧ (Lib.decodeGo s).2 = runeW s 0 := by
  unfold Lib.decodeGo
  rw [if_neg (by omega)]; exact ⟨rfl, rfl⟩
/-- A piece that is no error has bytes, and no more than there are. -/
theorem stepF_n {s : ByteArray} (h : 0 < s.size) (he : (stepF s).e = 0) : 1 ≤ (stepF s).n ∧ (stepF s).n ≤ s.size := by
  obtain ⟨r1, _⟩ := decodeGo_rune h
  unfold stepF at he ⊢
  simp only at he ⊢
  split at he
  · rename_i hc
    rw [if_pos hc]
    unfold wordF at he ⊢
    split at he
    · simp [errP] at he
    · rename_i hr
      rw [if_neg hr]
      have h1 := runF_pos withinF s h (by rw [← r1, withinF, hc]; rfl)
      have h2 := runF_le withinF s s.size 0 (Nat.zero_le _)
      simp only; omega
  · rename_i hc2
    split at he
    · rename_i hc
      rw [if_neg hc2, if_pos hc]
      unfold numberF at he ⊢
      split at he
      · simp [errP] at he
      · rename_i hr
        rw [if_neg hr]
        split at he
        · simp [errP] at he
        · rename_i v hv
          have h1 := runF_pos isDigit s h (by rw [← r1, isDigit, hc]; rfl)
          have h2 := runF_le isDigit s s.size 0 (Nat.zero_le _)
          simp only; omega
    · rename_i hc3
      split at he
      · rename_i hc
        rw [if_neg hc2, if_neg hc3, if_pos hc]
        simp only [markF, markN]
        split
        · rename_i hh
          have : ∀ a b : UInt8, Lib.hasPrefix s.data.toList [a, b] = true → 2 ≤ s.size := fun a b h => by
            have : [a, b].length ≤ s.data.toList.length := (List.isPrefixOf_iff_prefix.1 h).length_le
            simpa using this
          rw [Bool.or_eq_true] at hh
          have := hh.elim (this _ _) (this _ _)
          omega
        · omega
      · simp [errP] at he

set_option maxHeartbeats 1000000 in
theorem tokens_ctr (g : GP) (hg : ∀ w, g.G w → LibG w) (V : ByteArray → Bool) (hV : ∀ s : ByteArray, s.size ≤ 4000 → Ctr (ax g).E 85 [.str s] [] (fun o => o = .ret (.bool (V s)) [])) (s : ByteArray) (hs : s.size < 2 ^ 62) : Ctr (ax g).E 27 [.str s] [] (fun o => o = .ret (tokAV (tokensF V s)) []) := by
  refine Ctr.body (X := ax g) _ 76 [] [.tmp 2, .tmp 3] Tryd.func27 rfl rfl rfl rfl (by decide +kernel) rfl rfl ?_
  conv => whnf
  refine ifB_intro (fun h => ?_) (fun h => ?_)
  · have h : 4000 < s.size := Int.ofNat_lt.1 (of_decide_eq_true h)
    conv => whnf
    refine ⟨⟨[], ?_⟩⟩
    conv => whnf
    rw [tokensF, if_pos h]; rfl
  · have h : ¬ 4000 < s.size := fun hh => of_decide_eq_false h (Int.ofNat_lt.2 hh)
    conv => whnf
    refine CallP.det (hV s (by omega)) ?_
    conv => whnf
    refine ifB_intro (fun h2 => ?_) (fun h2 => ?_)
    · have h2 : (!V s) = true := h2
      rw [Bool.not_eq_true'] at h2
      conv => whnf
      refine ⟨⟨[], ?_⟩⟩
      conv => whnf
      rw [tokensF, if_neg h, if_pos h2]; rfl
    · have h2 : (!V s) = false := h2
      rw [Bool.not_eq_false'] at h2
      have hT : tokensF V s = tokGo (s.size + 1) s [] := by rw [tokensF, if_neg h, if_neg (by rw [h2]; simp)]
      conv => whnf
      refine LoopP.own 4 68 3 44 rfl rfl rfl ?_
      refine LoopP.inv (X := ax g) (fun x : ByteArray × List TokT => { f := [(0, .str x.1), (4, .msl 68 x.2.length 0 x.2.length)], h := [(68, some (.buf 3 44 (x.2.map rowK)))] }) (fun x => x.2.length + x.1.size ≤ 4000 ∧ ∃ f, x.1.size < f ∧ tokensF V s = tokGo f x.1 x.2) (fun x => x.1.size) (s, []) ⟨by simp; omega, s.size + 1, by simp, hT⟩ ⟨⟨rfl, rfl, trivial⟩, ⟨fun o h => h, trivial⟩⟩ fun ⟨u, acc⟩ ⟨hsz, f, hf, he⟩ => ?_
      have hsz : acc.length + u.size ≤ 4000 := hsz
      have he : tokensF V s = tokGo f u acc := he
      have hf : u.size < f := hf
      conv => whnf
      refine ifB_intro (fun h3 => ?_) (fun h3 => ?_)
      · have hne : 0 < u.size := by
          rcases Nat.eq_zero_or_pos u.size with hz | hz
          · exfalso
            have : u = ⟨#[]⟩ := by
              obtain ⟨a⟩ := u
              have : a = #[] := Array.eq_empty_of_size_eq_zero hz
              rw [this]
            subst this
            have h3 : (!((⟨#[]⟩ : ByteArray).data.toList == (⟨#[]⟩ : ByteArray).data.toList)) = true := h3
            simp at h3
          · exact hz
        obtain ⟨f', rfl⟩ : ∃ f', f = f' + 1 := ⟨f - 1, by omega⟩
        rw [tokGo, if_neg (by omega)] at he
        obtain ⟨r1, r2⟩ := decodeGo_rune hne
        have hw := runeW_pos u 0 hne
        have hwle := decodeGo_le_size u
        have hrl := runeAt_le u 0
        conv => whnf
        refine CallP.det (decode_ctr g hg u) ?_
        conv => whnf
        refine CallP.det (class_ctr g hg _ (by omega) (by omega)) ?_
        conv => whnf
        refine ifB_intro (fun h4 => ?_) (fun h4 => ?_)
        · have h4 : classF (Lib.decodeGo u).1 = 0 := by simpa using h4
          rw [if_pos h4] at he
          conv => whnf
          refine And.intro (show (0 : Int) ≤ ((Lib.decodeGo u).2 : Int) by omega) ?_
          refine And.intro (show ((Lib.decodeGo u).2 : Int) ≤ u.size by omega) ?_
          refine And.intro (Int.le_refl _) ?_
          conv => whnf
          exact ⟨(u.extract (Lib.decodeGo u).2 u.size, acc), ⟨by show acc.length + (u.extract (Lib.decodeGo u).2 u.size).size ≤ 4000; simp; omega, f', by show (u.extract (Lib.decodeGo u).2 u.size).size < f'; simp; omega, he⟩, by show (u.extract (Lib.decodeGo u).2 u.size).size < u.size; simp; omega, ⟨⟨rfl, rfl, trivial⟩, ⟨fun o h => h, trivial⟩⟩⟩
        · have h4 : ¬ classF (Lib.decodeGo u).1 = 0 := by simpa using h4
          rw [if_neg h4] at he
          conv => whnf
          refine ifB_intro (fun h5 => ?_) (fun h5 => ?_)
          · have h5 : classF (Lib.decodeGo u).1 = 1 := by simpa using h5
            rw [if_pos h5] at he
            conv => whnf
            refine CallP.det (run_ctr g u 89 (· != 10) (fun c _ => notEol_ctr g c)) ?_
            conv => whnf
            have hr1 : 1 ≤ runF (· != 10) u u.size 0 := runF_pos _ u hne (by
              have hc : classF (runeAt u 0) = 1 := by rw [← r1]; exact h5
              by_cases h10 : (runeAt u 0 : Int) = 10
              · rw [h10] at hc; exact absurd hc (by decide)
              · simpa using h10)
            have hr2 := runF_le (· != 10) u u.size 0 (Nat.zero_le _)
            generalize hN : runF (· != 10) u u.size 0 = N at hr1 hr2 he
            refine And.intro (show (0 : Int) ≤ (N : Int) by omega) ?_
            refine And.intro (show (N : Int) ≤ u.size by omega) ?_
            refine And.intro (Int.le_refl _) ?_
            conv => whnf
            exact ⟨(u.extract N u.size, acc), ⟨by show acc.length + (u.extract N u.size).size ≤ 4000; simp; omega, f', by show (u.extract N u.size).size < f'; simp; omega, he⟩, by show (u.extract N u.size).size < u.size; simp; omega, ⟨⟨rfl, rfl, trivial⟩, ⟨fun o h => h, trivial⟩⟩⟩
          · have h5 : ¬ classF (Lib.decodeGo u).1 = 1 := by simpa using h5
            rw [if_neg h5] at he
            conv => whnf
            refine ifB_intro (fun h6 => ?_) (fun h6 => ?_)
            · have h6 : classF (Lib.decodeGo u).1 = 2 := by simpa using h6
              conv => whnf
              refine CallP.det (word_ctr g hg u (by omega)) ?_
              conv => whnf
              refine And.intro rfl ?_
              conv => whnf
              have hst : stepF u = wordF u := by simp only [stepF, h6, if_true]
              rw [hst] at he
              refine ifB_intro (fun h7 => ?_) (fun h7 => ?_)
              · have h7 : (wordF u).e ≠ 0 := by simpa using h7
                rw [if_pos h7] at he
                conv => whnf
                refine ⟨⟨[], ?_⟩⟩
                conv => whnf
                rw [he]; rfl
              · have h7 : (wordF u).e = 0 := by simpa using h7
                rw [if_neg (by simp [h7])] at he
                have hnn := stepF_n hne (by rw [hst]; exact h7)
                rw [hst] at hnn
                conv => whnf
                refine DrawP.intro (X := ax g) B27_24 (by kernel_rfl) (by decide +kernel) ?_
                conv => whnf
                repeat (refine And.intro (by first | exact rfl | decide | exact Nat.le_of_ble_eq_true rfl | exact ⟨_, rfl⟩ | exact ⟨_, _, rfl⟩) ?_; conv => whnf)
                refine And.intro (List.length_map ..).symm ?_
                refine And.intro rfl ?_
                refine And.intro (by show ((acc.map rowK).length + 1) * 32 ≤ 140737488355328; simp; omega) ?_
                conv => whnf
                refine And.intro (show (0 : Int) ≤ (wordF u).n by omega) ?_
                refine And.intro (show (wordF u).n ≤ u.size by omega) ?_
                refine And.intro (Int.le_refl _) ?_
                conv => whnf
                exact ⟨(u.extract (wordF u).n.toNat u.size, acc ++ [(wordF u).t]), ⟨by show (acc ++ [(wordF u).t]).length + (u.extract (wordF u).n.toNat u.size).size ≤ 4000; simp; omega, f', by show (u.extract (wordF u).n.toNat u.size).size < f'; simp; omega, he⟩, by show (u.extract (wordF u).n.toNat u.size).size < u.size; simp; omega, ⟨⟨rfl, msl_eq (by simp), trivial⟩, ⟨fun o h => by rw [List.map_append] at h; exact h, trivial⟩⟩⟩
            · have h6 : ¬ classF (Lib.decodeGo u).1 = 2 := by simpa using h6
              conv => whnf
              refine ifB_intro (fun h8 => ?_) (fun h8 => ?_)
              · have h8 : classF (Lib.decodeGo u).1 = 3 := by simpa using h8
                conv => whnf
                refine CallP.det (number_ctr g hg u (by omega)) ?_
                conv => whnf
                refine And.intro rfl ?_
                conv => whnf
                have hst : stepF u = numberF u := by simp only [stepF]; rw [if_neg h6, if_pos h8]
                rw [hst] at he
                refine ifB_intro (fun h7 => ?_) (fun h7 => ?_)
                · have h7 : (numberF u).e ≠ 0 := by simpa using h7
                  rw [if_pos h7] at he
                  conv => whnf
                  refine ⟨⟨[], ?_⟩⟩
                  conv => whnf
                  rw [he]; rfl
                · have h7 : (numberF u).e = 0 := by simpa using h7
                  rw [if_neg (by simp [h7])] at he
                  have hnn := stepF_n hne (by rw [hst]; exact h7)
                  rw [hst] at hnn
                  conv => whnf
                  refine DrawP.intro (X := ax g) B27_24 (by kernel_rfl) (by decide +kernel) ?_
                  conv => whnf
                  repeat (refine And.intro (by first | exact rfl | decide | exact Nat.le_of_ble_eq_true rfl | exact ⟨_, rfl⟩ | exact ⟨_, _, rfl⟩) ?_; conv => whnf)
                  refine And.intro (List.length_map ..).symm ?_
                  refine And.intro rfl ?_
                  refine And.intro (by show ((acc.map rowK).length + 1) * 32 ≤ 140737488355328; simp; omega) ?_
                  conv => whnf
                  refine And.intro (show (0 : Int) ≤ (numberF u).n by omega) ?_
                  refine And.intro (show (numberF u).n ≤ u.size by omega) ?_
                  refine And.intro (Int.le_refl _) ?_
                  conv => whnf
                  exact ⟨(u.extract (numberF u).n.toNat u.size, acc ++ [(numberF u).t]), ⟨by show (acc ++ [(numberF u).t]).length + (u.extract (numberF u).n.toNat u.size).size ≤ 4000; simp; omega, f', by show (u.extract (numberF u).n.toNat u.size).size < f'; simp; omega, he⟩, by show (u.extract (numberF u).n.toNat u.size).size < u.size; simp; omega, ⟨⟨rfl, msl_eq (by simp), trivial⟩, ⟨fun o h => by rw [List.map_append] at h; exact h, trivial⟩⟩⟩
              · have h8 : ¬ classF (Lib.decodeGo u).1 = 3 := by simpa using h8
                conv => whnf
                refine ifB_intro (fun h9 => ?_) (fun h9 => ?_)
                · have h9 : classF (Lib.decodeGo u).1 = 5 := by simpa using h9
                  conv => whnf
                  refine CallP.det (mark_ctr g u hne) ?_
                  conv => whnf
                  refine And.intro rfl ?_
                  conv => whnf
                  have hst : stepF u = markF u := by simp only [stepF]; rw [if_neg h6, if_neg h8, if_pos h9]
                  rw [hst] at he
                  have h7 : (markF u).e = 0 := rfl
                  rw [if_neg (by simp [h7])] at he
                  have hnn := stepF_n hne (by rw [hst]; exact h7)
                  rw [hst] at hnn
                  refine DrawP.intro (X := ax g) B27_24 (by kernel_rfl) (by decide +kernel) ?_
                  conv => whnf
                  repeat (refine And.intro (by first | exact rfl | decide | exact Nat.le_of_ble_eq_true rfl | exact ⟨_, rfl⟩ | exact ⟨_, _, rfl⟩) ?_; conv => whnf)
                  refine And.intro (List.length_map ..).symm ?_
                  refine And.intro rfl ?_
                  refine And.intro (by show ((acc.map rowK).length + 1) * 32 ≤ 140737488355328; simp; omega) ?_
                  conv => whnf
                  refine And.intro (show (0 : Int) ≤ (markF u).n by omega) ?_
                  refine And.intro (show (markF u).n ≤ u.size by omega) ?_
                  refine And.intro (Int.le_refl _) ?_
                  conv => whnf
                  exact ⟨(u.extract (markF u).n.toNat u.size, acc ++ [(markF u).t]), ⟨by show (acc ++ [(markF u).t]).length + (u.extract (markF u).n.toNat u.size).size ≤ 4000; simp; omega, f', by show (u.extract (markF u).n.toNat u.size).size < f'; simp; omega, he⟩, by show (u.extract (markF u).n.toNat u.size).size < u.size; simp; omega, ⟨⟨rfl, msl_eq (by simp), trivial⟩, ⟨fun o h => by rw [List.map_append] at h; exact h, trivial⟩⟩⟩
                · have h9 : ¬ classF (Lib.decodeGo u).1 = 5 := by simpa using h9
                  have hst : stepF u = errP 10 := by simp only [stepF]; rw [if_neg h6, if_neg h8, if_neg h9]
                  rw [hst, if_pos (by decide)] at he
                  conv => whnf
                  refine ⟨⟨[], ?_⟩⟩
                  conv => whnf
                  rw [he]; rfl
      · have hz : u.size = 0 := by
          rcases Nat.eq_zero_or_pos u.size with hz | hz
          · exact hz
          · exfalso
            have h3 : (!(u.data.toList == (⟨#[]⟩ : ByteArray).data.toList)) = false := h3
            rw [Bool.not_eq_false', beq_iff_eq] at h3
            have : u.data.size = 0 := by rw [← Array.length_toList, h3]; rfl
            have : u.size = u.data.size := rfl
            omega
        obtain ⟨f', rfl⟩ : ∃ f', f = f' + 1 := ⟨f - 1, by omega⟩
        rw [tokGo, if_pos hz] at he
        conv => whnf
        refine And.intro ⟨⟨_, _, rfl, rfl, Nat.le_of_ble_eq_true rfl⟩, trivial⟩ ?_
        conv => whnf
        refine And.intro rfl ?_
        conv => whnf
        refine And.intro (List.length_map ..).symm ?_
        refine And.intro rfl ?_
        refine And.intro (by show ((acc.map rowK).length + 1) * 32 ≤ 140737488355328; simp; omega) ?_
        conv => whnf
        refine ⟨⟨[], ?_⟩⟩
        conv => whnf
        refine And.intro (by simp) ?_
        refine And.intro (by show 0 + ((acc.map rowK).length + 1) ≤ _; simp) ?_
        conv => whnf
        rw [he]
        show AOut.ret (.tup [.d (.sl false 3 (List.take ((acc.map rowK).length + 1) (List.drop 0 (acc.map rowK ++ [rowK noTok])))), .i64 0]) [] = AOut.ret (.tup [.d (.sl false 3 ((acc ++ [noTok]).map rowK)), .i64 0]) []
        rw [List.drop_zero, List.take_of_length_le (by simp), List.map_append]; rfl
end Go.Ax
