/- Abstract execution, part P: code as one function; loops. -/
import Derived.Test.YtjokajidcojlmaaDoorAxO
namespace Go.Ax

structure LoopP (E : Env) (k : Kn) (c : Code) (Q : APost) (s : St) : Prop where
  ok : AWp E k (.loop c) Q s
structure DrawP (E : Env) (k : Kn) (id : Nat) (ops : Array Oper) (Q : APost) (s : St) : Prop where
  ok : AWp E k (.region id ops true) Q s
structure OtherP (E : Env) (k : Kn) (c : Code) (Q : APost) (s : St) : Prop where
  ok : AWp E k c Q s

def wpc (E : Env) (tab : List (Nat × TI)) (k : Kn) : Code → APost → St → Prop
  | .skip, Q, s => Q .normal s
  | .seq x y, Q, s => wpc E tab k x (thenP (fun s => wpc E tab k y Q s) Q) s
  | .ret, Q, s => Q .ret s
  | .exit id, Q, s => Q (.exit id) s
  | .block id c, Q, s => wpc E tab k c (blockP id Q) s
  | .cond (.tmp t) x y, Q, s => match Nat.blt t k.nt, lk t s.f with
    | true, .d (.v (.bool b)) => ifB b (wpc E tab k x Q s) (wpc E tab k y Q s)
    | _, _ => False
  | .region id ops draw, Q, s => match draw, ops.toList.all (fun o => dstIn k.nt o.dst) with
    | false, true => runP E tab k ops.toList (fun s => Q .normal s) (fun ch s => Q (.panic ch) s) ops.toList s
    | true, _ => DrawP E k id ops Q s
    | _, _ => False
  | .loop c, Q, s => LoopP E k c Q s
  | c, Q, s => OtherP E k c Q s

variable {X : Ax} {k : Kn}

theorem wpc_ok : ∀ {code : Code} {Q : APost} {s : St}, wpc X.E X.tab k code Q s → AWp X.E k code Q s := by
  intro code
  induction code with
  | skip => exact fun h => .skip h
  | seq x y ihx ihy =>
    intro Q s h
    refine .seq (AWp.mono (ihx h) fun e s hq => ?_)
    cases e with
    | normal => exact ihy hq
    | _ => exact hq
  | ret => exact fun h => .ret h
  | exit id => exact fun h => .exit h
  | block id c ih => exact fun h => .block (ih h)
  | cond c x y ihx ihy =>
    intro Q s h
    cases c with
    | tmp t =>
      simp only [wpc] at h
      split at h
      · rename_i b h1 h2
        refine .cond (by simpa using h1) h2 (fun e => ?_) (fun e => ?_)
        · subst e; exact ihx h
        · subst e; exact ihy h
      · exact h.elim
    | _ => exact h.ok
  | region id ops draw =>
    intro Q s h
    cases draw with
    | true => simp only [wpc] at h; exact h.ok
    | false =>
      simp only [wpc] at h
      split at h
      · rename_i h1 h2; exact .region h2 h
      · rename_i h1; exact absurd h1 (by simp)
      · exact h.elim
  | loop c ih => exact fun h => h.ok
  | rangeFunc f ps a b => exact fun h => h.ok
  | scope c => exact fun h => h.ok
  | label l => exact fun h => h.ok
  | goto l => exact fun h => h.ok
  | refuse w => exact fun h => h.ok

/-- A loop, met by a family of states and a number that falls. -/
theorem LoopP.intro {σ : Type} {body : Code} {Q : APost} {s : St} (st : σ → St) (μ : σ → Nat) (s0 : σ) (h0 : (st s0).Le s)
    (round : ∀ x, wpc X.E X.tab k body (thenP (fun s' => ∃ x', μ x' < μ x ∧ (st x').Le s') Q) (st x)) : LoopP X.E k body Q s :=
  ⟨AWp.loop st μ s0 h0 fun x => wpc_ok (round x)⟩

/-- A contract out of a body, met by the one function. -/
theorem Ctr.body {f : FuncId} {fn : Func} {args : List AV} {hin : HL} {post : AOut → Prop} (code : Code) (nt : Nat) (anc : List Nat) (rs : List ResultVar) (hf : X.E.P.funcs[f]? = some fn) (hb : fn.body = some code) (hnt : fn.ntmps = nt) (hanc : hin.map (·.1) = anc) (hrs : fn.results.toList = rs) (hname : (fn.name == "runtime.NumGoroutine") = false) (hargs : Nat.ble args.length nt = true) (hres : rs.all (resIn nt) = true)
    (h : wpc X.E X.tab { nt, anc } code (retP X.tab rs post) { f := entry 0 args, h := hin }) : Ctr X.E f args hin post := by
  subst hnt; subst hanc; subst hrs
  exact Ctr.intro hf hb hname (Nat.le_of_ble_eq_true hargs) hres (wpc_ok h)

end Go.Ax
