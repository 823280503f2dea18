/- The laws of layer 4, walked. -/
import Derived.Test.YtjokajidcojlmaaDoorAxLj
namespace Go.Ax

open Go.Proofs Go.Lib
set_option maxRecDepth 10000

theorem tokV_ctr (g : GP) (hg : ∀ w, g.G w → LibG w) (s : ByteArray) (hs : s.size < 2 ^ 62) : Ctr (ax g).E 27 [.str s] [] (fun o => o = .ret (tokAV (tokensF vS s)) []) :=
  tokens_ctr g hg vS (fun s h => valid_ctr g hg s (by omega)) s hs

theorem wt_len (l : List TokT) : l.length ≤ wt l := by
  induction l with
  | nil => simp
  | cons t l ih => rw [show t :: l = [t] ++ l from rfl, wt_app, wt_one, List.length_append]; simp; omega
/-- What the tokens of a text are. -/
theorem tok_some {s : ByteArray} {m : List TokT} {e : Int} (h : tokensF vS s = (some m, e)) : e = 0 ∧ s.size ≤ 4000 ∧ ∃ l, m = l ++ [noTok] ∧ (∀ t ∈ l, TokOk t) ∧ wt l ≤ 6 * s.size ∧ l.length ≤ 6 * s.size := by
  have hs : s.size ≤ 4000 := by
    rcases Nat.lt_or_ge 4000 s.size with h1 | h1
    · rw [tokensF, if_pos h1] at h; exact absurd h (by simp)
    · exact h1
  rw [tokensF_T s hs] at h
  cases hv : vS s with
  | false => rw [hv, if_pos rfl] at h; exact absurd h (by simp)
  | true =>
    rw [hv, if_neg (by simp)] at h
    obtain ⟨l, h1, h2, h3⟩ := tokT_ok _ (chunks s.data.toList) [] (Nat.le_refl _) (good_chunks _) (by rw [← valid_chunks]; exact hv) (fun t ht => by simp at ht) m e h
    have he : e = 0 := by
      rcases tokT_ends _ (chunks s.data.toList) [] (Nat.le_refl _) with ⟨k, g⟩ | ⟨f, g, _⟩
      · rw [g] at h; injection h with _ h; exact h.symm
      · rw [g] at h; exact absurd h (by simp)
    rw [flat_chunks, len_data] at h3
    have h4 : wt l ≤ 6 * s.size := by simpa [wt] using h3
    exact ⟨he, hs, l, h1, h2, h4, by have := wt_len l; omega⟩

def t1 : ByteArray := ⟨#[100, 115, 116, 58, 61, 55, 32, 35, 32, 120]⟩
def l1 : List TokT := [⟨1, ⟨#[100, 115, 116]⟩, 0⟩, ⟨3, ⟨#[58, 61]⟩, 0⟩, ⟨2, ⟨#[]⟩, 7⟩, noTok]
theorem tok1 : tokensF vS t1 = (some l1, 0) := by
  rw [tokensF_T _ (by decide)]
  rw [show vS t1 = true from by decide +kernel, if_neg (by simp)]
  have : chunks t1.data.toList = [(100, [100]), (115, [115]), (116, [116]), (58, [58]), (61, [61]), (55, [55]), (32, [32]), (35, [35]), (32, [32]), (120, [120])] := by decide +kernel
  rw [this]
  rfl
theorem tok2 : tokensF vS ⟨#[36]⟩ = (none, 10) := by
  rw [tokensF_T _ (by decide)]
  rw [show vS ⟨#[36]⟩ = true from by decide +kernel, if_neg (by simp)]
  have : chunks (⟨#[36]⟩ : ByteArray).data.toList = [(36, [36])] := by decide +kernel
  rw [this]
  rfl
theorem wt1 : wt l1 ≤ 2 ^ 40 := by
  have : wt l1 = 10 := by simp [wt, l1, txtB, noTok, decDigits_one]
  omega
theorem join1 : joinS (ahead l1) = ⟨#[100, 115, 116, 32, 58, 61, 32, 55]⟩ := by
  rw [joinS, show (ahead l1).map txtB = [[100, 115, 116], [58, 61], decDigits 7] from rfl, decDigits_one (by decide)]
  rfl
end Go.Ax
