/- The abstract machine, part 23: equations by which it is carried out over values that are not fixed. -/
import Derived.Test.YtlibmcabpcehcaaAm22
set_option linter.unusedSimpArgs false
set_option linter.unusedVariables false
namespace Go.AM

section
variable {call : CallF}
theorem nextA_some (f : St → Option St) (s : St) : nextA f (some s) = f s := rfl
theorem seqA_norm (f : St → Option (Ex × St)) (s : St) : seqA f (some (.norm, s)) = f s := rfl
theorem seqA_ret (f : St → Option (Ex × St)) (s : St) : seqA f (some (.ret, s)) = some (.ret, s) := rfl
theorem seqA_exit (f : St → Option (Ex × St)) (n : Nat) (s : St) : seqA f (some (.exit n, s)) = some (.exit n, s) := rfl
theorem normA_some (s : St) : normA (some s) = some (.norm, s) := rfl
theorem condA_t (f g : St → Option (Ex × St)) (s : St) : condA f g s (some true) = f s := rfl
theorem condA_f (f g : St → Option (Ex × St)) (s : St) : condA f g s (some false) = g s := rfl
theorem startA_go (f : St → Option (Ex × St)) (s : St) : startA f (some s) = f s := rfl
theorem blockA_norm (n : Nat) (s : St) : blockA n (some (.norm, s)) = some (.norm, s) := rfl
theorem blockA_ret (n : Nat) (s : St) : blockA n (some (.ret, s)) = some (.ret, s) := rfl
theorem blockA_exit (n m : Nat) (s : St) : blockA n (some (.exit m, s)) = if m = n then some (.norm, s) else some (.exit m, s) := rfl
theorem putR_do (d : Nat) (e : Tr) (v : AV) (H : List AObj) : putR (some d) e (some (v, H)) = some ⟨e.set d v, H⟩ := rfl
theorem putR_no (e : Tr) (v : AV) (H : List AObj) : putR none e (some (v, H)) = some ⟨e, H⟩ := rfl
theorem C_skip (s : St) : evalC call .skip s = some (.norm, s) := rfl
theorem C_region (ops : List AOper) (s : St) : evalC call (.region ops) s = normA (evalOps call ops s) := rfl
theorem C_seq (a b : ACode) (s : St) : evalC call (.seq a b) s = seqA (evalC call b) (evalC call a s) := rfl
theorem C_cond (c : AO) (a b : ACode) (s : St) : evalC call (.cond c a b) s = condA (evalC call a) (evalC call b) s (asBool (c.ev s.env)) := rfl
theorem C_block (n : Nat) (b : ACode) (s : St) : evalC call (.block n b) s = blockA n (evalC call b s) := rfl
theorem C_loop (live : List Nat) (b : ACode) (s : St) : evalC call (.loop live b) s = startA (loopA (roundA (evalC call b) (clean s.H.length live)) rounds) (clean s.H.length live s) := rfl
theorem C_exit (n : Nat) (s : St) : evalC call (.exit n) s = some (.exit n, s) := rfl
theorem C_ret (s : St) : evalC call .ret s = some (.ret, s) := rfl
theorem C_ghost (g : Ghost) (c : ACode) (s : St) : evalC call (.ghost g c) s = startA (evalC call c) (ghostA g s) := rfl
theorem ops_nil (s : St) : evalOps call [] s = some s := rfl
theorem ops_cons (o : AOper) (r : List AOper) (s : St) : evalOps call (o :: r) s = nextA (evalOps call r) (evalOper call o s) := rfl
theorem oper_go (d : Option Nat) (op : AOp) (e : Tr) (H : List AObj) : evalOper call ⟨d, op, none, false⟩ ⟨e, H⟩ = putR d e (evalOp call e H op) := rfl
theorem oper_pr (d : Option Nat) (op : AOp) (e : Tr) (H : List AObj) : evalOper call ⟨d, op, none, true⟩ ⟨e, H⟩ = putR d e (onH H (evalOp call e [] op)) := rfl
theorem oper_if (d : Option Nat) (op : AOp) (t : Nat) (b p : Bool) (e : Tr) (H : List AObj) : evalOper call ⟨d, op, some (t, b), p⟩ ⟨e, H⟩ = guardA (doOp call ⟨d, op, some (t, b), p⟩) (skipOp ⟨d, op, some (t, b), p⟩) ⟨e, H⟩ (wantedA e (some (t, b))) := rfl
theorem guard_t (f g : St → Option St) (s : St) : guardA f g s (some true) = f s := rfl
theorem guard_f (f g : St → Option St) (s : St) : guardA f g s (some false) = g s := rfl
theorem do_go (d : Option Nat) (op : AOp) (g : Option (Nat × Bool)) (e : Tr) (H : List AObj) : doOp call ⟨d, op, g, false⟩ ⟨e, H⟩ = putR d e (evalOp call e H op) := rfl
theorem do_pr (d : Option Nat) (op : AOp) (g : Option (Nat × Bool)) (e : Tr) (H : List AObj) : doOp call ⟨d, op, g, true⟩ ⟨e, H⟩ = putR d e (onH H (evalOp call e [] op)) := rfl
theorem skip_do (d : Nat) (op : AOp) (g : Option (Nat × Bool)) (p : Bool) (e : Tr) (H : List AObj) : skipOp ⟨some d, op, g, p⟩ ⟨e, H⟩ = some ⟨e.set d (.pv (.tup [])), H⟩ := rfl
theorem skip_no (op : AOp) (g : Option (Nat × Bool)) (p : Bool) (e : Tr) (H : List AObj) : skipOp ⟨none, op, g, p⟩ ⟨e, H⟩ = some ⟨e, H⟩ := rfl
theorem onH_go (H : List AObj) (v : AV) : onH H (some (v, [])) = some (v, H) := rfl
theorem outA_norm (f : AFn) (s : St) : outA f (some (.norm, s)) = (retA f s).map fun v => (v, s.H) := rfl
theorem outA_ret (f : AFn) (s : St) : outA f (some (.ret, s)) = (retA f s).map fun v => (v, s.H) := rfl
theorem run_go (f : AFn) (args : List AV) (H : List AObj) (h : args.length = f.np) : runF call f args H = outA f (evalC call f.body ⟨argEnv 0 args, H⟩) := if_pos h
end

/-- What a function answers, by its results alone. -/
def outR (rs : List ARes) (r : Option (Ex × St)) : Option (AV × List AObj) := outA ⟨0, rs, .skip⟩ r
theorem outR_norm (rs : List ARes) (s : St) : outR rs (some (.norm, s)) = (mapO (resA s) rs).bind fun vs => some (one1 vs, s.H) := by
  show (retA _ s).map _ = _
  simp only [retA]
  cases mapO (resA s) rs <;> rfl
theorem outR_ret (rs : List ARes) (s : St) : outR rs (some (.ret, s)) = (mapO (resA s) rs).bind fun vs => some (one1 vs, s.H) := outR_norm rs s
theorem runF_go {call : CallF} (np : Nat) (rs : List ARes) (body : ACode) (args : List AV) (H : List AObj) : runF call ⟨np, rs, body⟩ args H = if args.length = np then outR rs (evalC call body ⟨argEnv 0 args, H⟩) else none := rfl

theorem b_tt : (true == true) = true := rfl
theorem b_tf : (true == false) = false := rfl
theorem b_ft : (false == true) = false := rfl
theorem b_ff : (false == false) = true := rfl

theorem callL_succ (L : Nat → Option AFn) (d ix : Nat) (args : List AV) (H : List AObj) : callL L (d + 1) ix args H = (L ix).bind fun f => runF (callL L d) f args H := rfl

theorem callL_go (L : Nat → Option AFn) (d ix : Nat) (args : List AV) (H : List AObj) {f : AFn} (h : L ix = some f) : callL L (d + 1) ix args H = runF (callL L d) f args H := by simp [callL, h]

theorem lenA_nils (H : List AObj) : lenA H 0 (.pv .nils) = some 0 := rfl
theorem lenA_lit (H : List AObj) (sz : Nat) (es : List PV) : lenA H 0 (.pv (.lit sz es)) = some es.length := rfl
theorem lenA_uq (H : List AObj) (id sz : Nat) (nl : Bool) (es : List PV) : lenA H 0 (.uq id nl sz es) = some es.length := rfl
theorem lenA_str (H : List AObj) (x : ByteArray) : lenA H 1 (.pv (.str x)) = some x.size := rfl
theorem lenA_nilm (H : List AObj) : lenA H 2 (.pv .nilm) = some 0 := rfl
theorem lenA_own (H : List AObj) (id len : Nat) : lenA H 0 (.own id len) = match H[id]? with
    | some (.seq sz _ cells fl _) => (if (winOk sz len fl cells.length) then (some len) else none)
    | _ => none := rfl
theorem lenA_mp (H : List AObj) (id : Nat) : lenA H 2 (.mp id) = match H[id]? with
    | some (.map es) => some es.length
    | _ => none := rfl

end Go.AM
