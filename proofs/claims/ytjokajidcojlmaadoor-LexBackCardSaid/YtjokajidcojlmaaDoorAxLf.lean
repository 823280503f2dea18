/- Abstract execution, part Lf: the program's variables that are tables. -/
import Derived.Test.YtjokajidcojlmaaDoorAxLe
namespace Go.Ax

theorem Sim.G0 {E : Env} {c : Cx} {Im : Nat → Prop} {ρ : Nat → Option Loc} {F : Nat → AV} {H : Nat → Option AObj} {a : Act} {w : World} (S : Sim c Im ρ F H a w) (ok : c.Ok E) : E.G w :=
  E.Gst c.w0 w S.os (fun b hb => S.kept b (ok.im b (ok.gl b hb)).1 (ok.im b (ok.gl b hb)).2) ok.G

theorem glob_RA {E : Env} {c : Cx} {Im : Nat → Prop} {ρ : Nat → Option Loc} {F : Nat → AV} {H : Nat → Option AObj} {a : Act} {w : World} (S : Sim c Im ρ F H a w) (ok : c.Ok E) {g : Nat} {cs : List D} (hg : (g, cs) ∈ E.gl) : RA (hp w) Im ρ (.pointer (some ⟨g, 0, none⟩)) (.ep cs) := by
  obtain ⟨h1, ms, t, fz, h2, h3⟩ := E.glOk w (S.G0 ok) _ hg
  refine .ep g 0 cs (fun j => ms.getD j undef) (S.im0 g (ok.gl g h1)) (fun j x hj => ?_) (fun j x hj => ?_)
  · obtain ⟨v, e1, _, _⟩ := h3 j x hj
    refine ⟨ms, t, fz, h2, ?_⟩
    rw [Nat.zero_add, e1]
    have := (Array.getElem?_eq_some_iff.1 e1)
    obtain ⟨hl, hv⟩ := this
    simp [Array.getD, hl, hv]
  · obtain ⟨v, e1, rfl, e3⟩ := h3 j x hj
    obtain ⟨hl, hv⟩ := Array.getElem?_eq_some_iff.1 e1
    have : ms.getD j undef = v := by simp [Array.getD, hl, hv]
    rw [this]; exact .v v e3

section ops
variable {E : Env} {k : Kn} {ty : TypeId} {s : St} {tab : List (Nat × TI)} {e : Eff}

theorem ok_indexAddr_gl {t e0 : TypeId} {g : Nat} {ix : Operand} {i ei : TI} {n : Nat} {cs : List D} {ik : IntKind} {j : Int} (hi : opIn k.nt (.indexAddr t (.global g) ix) = true) (ht : tiOf E.P t = some i) (hk : i.k = .array n e0) (he : tiOf E.P e0 = some ei)
    (hg : (g, cs) ∈ E.gl) (hj : evO s ix = .d (.v (.int ik j))) : OpOk E k (.indexAddr t (.global g) ix) ty s { val := .ep (cs.drop (j.toNat * ei.size)), cond := [0 ≤ j, j < n] } :=
  .pure _ none fun hc c Im ρ F H a w o ok hn S ho _ hF _ => by
    have h2 := glob_RA S ok hg
    have h3 := opIn_ev (x := ix) S hn hi hF (by simp [Op.operands])
    rw [hj] at h3
    have hv : a.eval (.global g) = .pointer (some ⟨g, 0, none⟩) := rfl
    generalize hvv : (Value.pointer (some ⟨g, 0, none⟩)) = v at h2 hv
    cases h2 with
    | ep b o' _ f hb hcs hr =>
      exact ⟨.pointer (some ⟨b, o' + j.toNat * ei.size, none⟩), by simp [execOp, ho, hv, h3.v, run_indexAt_array ht hk he hc.1 hc.2.1, add_zero_spot], ep_drop rfl (.ep b o' cs f hb hcs hr)⟩

def lkG (g : Nat) : List (Nat × List D) → Option (List D)
  | [] => none
  | (k, v) :: r => match Nat.beq k g with
    | true => some v
    | false => lkG g r
theorem lkG_mem {g : Nat} {cs : List D} : ∀ {l : List (Nat × List D)}, lkG g l = some cs → (g, cs) ∈ l
  | [], h => by simp [lkG] at h
  | (k, v) :: r, h => by
    simp only [lkG] at h
    split at h
    · rename_i hb
      injection h with h; subst h
      rw [Nat.eq_of_beq_eq_true hb]; simp
    · exact List.mem_cons_of_mem _ (lkG_mem h)

def opG (gl : List (Nat × List D)) (tab : List (Nat × TI)) (s : St) (op : Op) : Option Eff := match op with
  | .indexAddr t (.global g) ix => match lkT t tab, evO s ix, lkG g gl with
    | some i, .d (.v (.int _ j)), some cs => match i.k with
      | .array n e0 => match lkT e0 tab with
        | some ei => some { val := .ep (cs.drop (j.toNat * ei.size)), cond := [0 ≤ j, j < n] }
        | none => none
      | _ => none
    | _, _, _ => none
  | _ => none
theorem opG_ok (htab : TabOk E.P tab) {op : Op} (hi : opIn k.nt op = true) (h : opG E.gl tab s op = some e) : Good E k op ty s e := by
  unfold opG at h
  split at h
  · split at h
    · rename_i ht hj hg
      split at h
      · rename_i hk
        split at h
        · rename_i he
          injection h with h; subst h
          exact ⟨ok_indexAddr_gl hi (htab.at ht) hk (htab.at he) (lkG_mem hg) hj, by simp [RhOk]⟩
        · simp at h
      · simp at h
    · simp at h
  · simp at h

end ops
end Go.Ax
