/- The abstract machine, part 16: every plain operation is met. -/
import Derived.Test.YtlibmcabpcehcaaAm15
set_option linter.unusedSimpArgs false
set_option linter.unusedVariables false
namespace Go.AM
open Go.RowKit

section ops
variable {P : Program} {fo : Nat → FuncId} {B0 : Base} {w : World} {R : Rd} {φ : Pl} {H H' : List AObj} {e : Tr} {a : Act} {call : CallF}

theorem okParts_spec (hE : ERel fo (K R φ H) e a) {sz : Nat} : ∀ {parts : List (Nat × Operand)} {aparts : List (Nat × AO)}, okParts fo parts aparts = true →
    (parts.map fun p => (p.1, a.eval p.2)).length = (aparts.map fun p => (p.1 * sz, sz, p.2.ev e)).length ∧
    ∀ (j : Nat) (i : Nat) (v : Value) (off s : Nat) (x : AV), (parts.map fun p => (p.1, a.eval p.2))[j]? = some (i, v) → (aparts.map fun p => (p.1 * sz, sz, p.2.ev e))[j]? = some (off, s, x) → off = i * sz ∧ s = sz ∧ ARel fo (K R φ H) x v
  | [], [], _ => ⟨rfl, fun j i v off s x h => by simp at h⟩
  | (i, x) :: xs, (j, y) :: ys, h => by
    simp only [okParts, Bool.and_eq_true, beq_iff_eq] at h
    obtain ⟨⟨rfl, h1⟩, h2⟩ := h
    obtain ⟨q1, q2⟩ := okParts_spec hE (sz := sz) h2
    refine ⟨by simpa using q1, fun k i' v off s z e1 e2 => ?_⟩
    cases k with
    | zero =>
      simp at e1 e2
      obtain ⟨rfl, rfl⟩ := e1
      obtain ⟨rfl, rfl, rfl⟩ := e2
      exact ⟨rfl, rfl, ev_rel hE h1⟩
    | succ k => exact q2 k i' v off s z (by simpa using e1) (by simpa using e2)
  | [], _ :: _, h => by simp [okParts] at h
  | _ :: _, [], h => by simp [okParts] at h

theorem opt_rel (hE : ERel fo (K R φ H) e a) {x : Option Operand} {y : Option AO} (h : okOpt fo x y = true) : (x = none ∧ y = none) ∨ ∃ x' y', x = some x' ∧ y = some y' ∧ okO fo x' y' = true := by
  cases x <;> cases y <;> simp [okOpt] at h
  · exact .inl ⟨rfl, rfl⟩
  · exact .inr ⟨_, _, rfl, rfl, h⟩

theorem okEl_agg {el : TypeId} {sz : Nat} {ag : Bool} {zero : List PV} (h : okEl P el sz ag zero = true) : aggP P el = some ag := by
  simp only [okEl, Bool.and_eq_true, beq_iff_eq] at h
  exact h.2

theorem agOr {ag : Bool} {x : Bool} (h : (!ag || x) = true) : ag = true → x = true := by
  intro e; subst e; simpa using h

theorem b2s_both (hS : SRel fo B0 w R φ H) {x : AV} {vx : Value} (hx : ARel fo (K R φ H) x vx) {s : ByteArray} (h : b2sA H x = some s) : (∃ sa sl sc, vx = .slice sa sl sc) ∧ (Conv.bytesToString vx).run P w = .ok (.string s) w := by
  have lits : ∀ {es : List PV} {l : List UInt8}, PRel R (.lit 1 es) vx → bytesOf es = some l → s = ⟨l.toArray⟩ → (∃ sa sl sc, vx = .slice sa sl sc) ∧ (Conv.bytesToString vx).run P w = .ok (.string s) w := by
    intro es l hp hb hs
    subst hs
    refine ⟨?_, b2s_lit hS hp hb⟩
    cases hp <;> exact ⟨_, _, _, rfl⟩
  have nils : vx = .slice none 0 0 → s = ByteArray.empty → (∃ sa sl sc, vx = .slice sa sl sc) ∧ (Conv.bytesToString vx).run P w = .ok (.string s) w := by
    rintro rfl rfl
    exact ⟨⟨_, _, _, rfl⟩, by simp [Conv.bytesToString]⟩
  unfold b2sA at h
  split at h
  · injection h with h
    have := hx.pv_inv
    cases this
    exact nils rfl h.symm
  · simp only [Option.map_eq_some_iff] at h
    obtain ⟨l, h1, h2⟩ := h
    exact lits hx.pv_inv h1 h2.symm
  · rename_i id nl es
    simp only [Option.map_eq_some_iff] at h
    obtain ⟨l, h1, h2⟩ := h
    have hk := hx.uq_inv
    cases nl with
    | true =>
      obtain ⟨rfl, rfl⟩ := hk.2.1 rfl
      simp [bytesOf] at h1
      subst h1
      exact nils rfl h2.symm
    | false => exact lits (hk.2.2.1 rfl) h1 h2.symm
  · rename_i id len
    have hk := hx.own_inv
    split at h
    · rename_i sz ag c fl nl hc
      split at h
      · rename_i hcond
        obtain ⟨rfl, hcur⟩ := hcond
        obtain ⟨k0, k⟩ := hk.2.2 _ _ _ _ _ hc
        obtain ⟨o0, o1, o2, o3, o4⟩ := hS.obj _ _ hc
        obtain ⟨k1, k2⟩ := k (by omega)
        cases nl with
        | true =>
          simp only [if_true, Option.some.injEq] at h
          exact nils (k1 rfl) h.symm
        | false =>
          simp only [Bool.false_eq_true, if_false, Option.map_eq_some_iff, Option.bind_eq_some_iff] at h
          obtain ⟨l, ⟨ps, hps, hl⟩, rfl⟩ := h
          rcases k2 rfl with ⟨q1, q2, _⟩ | ⟨b, o, cap, q1, q2, _⟩
          · subst q1; exact absurd (List.eq_nil_of_length_eq_zero (by omega)) q2
          · obtain ⟨rfl, rfl, rfl⟩ := q2 hcur
            subst q1
            obtain ⟨_, _, arr, p3, p4, p5, p6⟩ := o4 rfl
            have h7 := allPV_rel hps p6
            obtain ⟨ns, e1, rfl⟩ := bytes_rel hl h7
            refine ⟨⟨_, _, _, rfl⟩, ?_⟩
            have hlen : (ns.map (Value.int .u8)).length = len := by rw [← e1, List.length_take]; simp; omega
            have := run_bytesToString (P := P) w ⟨(φ id).1, 0, none⟩ len (φ id).2 ns (by
              have := run_loadCells' (P := P) (w := w) (b := (φ id).1) (o := 0) (vs := ns.map (Value.int .u8)) (fun j v hj => by
                rw [Nat.zero_add, p3.cell]
                rw [← e1, List.getElem?_take] at hj
                split at hj
                · simpa using hj
                · cases hj) hlen
              simpa using this)
            rw [this]
            congr 2
            have h4 := foldl_push ns ByteArray.empty
            generalize ns.foldl (fun r n => r.push (UInt8.ofNat n.toNat)) ByteArray.empty = z at h4
            obtain ⟨⟨z⟩⟩ := z
            simp at h4
            subst h4
            rfl
      · cases h
    · cases h
  · cases h

theorem b2s_slice (hS : SRel fo B0 w R φ H) {x : AV} {vx : Value} (hx : ARel fo (K R φ H) x vx) {s : ByteArray} (h : b2sA H x = some s) : ∃ sa sl sc, vx = .slice sa sl sc := (b2s_both (P := default) hS hx h).1

theorem b2s_run (hS : SRel fo B0 w R φ H) {x : AV} {vx : Value} (hx : ARel fo (K R φ H) x vx) {s : ByteArray} (h : b2sA H x = some s) : (Conv.bytesToString vx).run P w = .ok (.string s) w := (b2s_both hS hx h).2

theorem build_sim (hS : SRel fo B0 w R φ H) (hE : ERel fo (K R φ H) e a) {t : TypeId} {fs : Array Field} {parts : Array (Nat × Operand)} {aparts : List (Nat × Nat × AO)} {zero : List PV} (hu : P.underlying t = some (.struct fs))
    (hb : okBuildS P fo fs parts.toList aparts = true) (hall : (fs.all fun f => (sizeP P f.type).isSome) = true) (hz : zerosP P t zero = true) {cs : List AV} (hf : fillA (zero.map .pv) (aparts.map fun p => (p.1, p.2.1, p.2.2.ev e)) = some cs) :
    ResV fo B0 w R φ H P (Instr.build t (parts.map fun (i, x) => (i, a.eval x))) (mkAgg cs) H := by
  unfold zerosP at hz
  cases hi : P.info? t with
  | none => simp [hi] at hz
  | some i =>
    simp only [hi] at hz
    cases hzz : i.zero with
    | none => simp [hzz] at hz
    | some z =>
      simp only [hzz] at hz
      obtain ⟨h1, h2⟩ := eqConsts_rel (R := R) hz
      -- the places
      have hpl : ∀ (l : List Field), (∀ f ∈ l, (sizeP P f.type).isSome = true) → (l.mapM fun f => (do pure (f.offset, ← sizeOf f.type) : Sem (Nat × Nat))).run P w = .ok (l.map fun f => (f.offset, (sizeP P f.type).getD 0)) w := by
        intro l
        induction l with
        | nil => intro _; simp
        | cons f l ih =>
          intro hl
          obtain ⟨n, hn⟩ := Option.isSome_iff_exists.1 (hl f (by simp))
          rw [List.mapM_cons]
          simp only [Sem.run_bind, run_sizeOf' hn, Result.andThen_ok, Sem.run_pure, ih (fun g hg => hl g (by simp [hg]))]
          simp [hn]
      have hplaces : (fs.mapM fun f => (do pure (f.offset, ← sizeOf f.type) : Sem (Nat × Nat))).run P w = .ok (fs.map fun f => (f.offset, (sizeP P f.type).getD 0)) w := by
        have := hpl fs.toList (fun f hf => by
          rw [Array.all_eq_true] at hall
          obtain ⟨i, hi, rfl⟩ := List.mem_iff_getElem.1 hf
          simpa using hall i (by simpa using hi))
        rw [Array.mapM_eq_mapM_toList]
        simp only [Sem.run_map, this, Result.andThen_ok]
        exact congrArg (fun x => Result.ok x w) (by apply Array.ext'; simp)
      have spec : ∀ {xs : List (Nat × Operand)} {ys : List (Nat × Nat × AO)}, okBuildS P fo fs xs ys = true → (xs.map fun p => (p.1, a.eval p.2)).length = (ys.map fun p => (p.1, p.2.1, p.2.2.ev e)).length ∧
          ∀ (j : Nat) (i : Nat) (v : Value) (off s : Nat) (x : AV), (xs.map fun p => (p.1, a.eval p.2))[j]? = some (i, v) → (ys.map fun p => (p.1, p.2.1, p.2.2.ev e))[j]? = some (off, s, x) →
            (fs.map fun f => (f.offset, (sizeP P f.type).getD 0))[i]? = some (off, s) ∧ ARel fo (K R φ H) x v := by
        intro xs
        induction xs with
        | nil =>
          intro ys h
          cases ys with
          | nil => exact ⟨rfl, fun j i v off s x h => by simp at h⟩
          | cons y ys => simp [okBuildS] at h
        | cons x xs ih =>
          intro ys h
          cases ys with
          | nil => simp [okBuildS] at h
          | cons y ys =>
            obtain ⟨i, x⟩ := x
            obtain ⟨off, sz, y⟩ := y
            simp only [okBuildS, Bool.and_eq_true] at h
            obtain ⟨⟨g1, g2⟩, g3⟩ := h
            obtain ⟨q1, q2⟩ := ih g3
            refine ⟨by simpa using q1, fun k i' v off' s z e1 e2 => ?_⟩
            cases k with
            | zero =>
              simp at e1 e2
              obtain ⟨rfl, rfl⟩ := e1
              obtain ⟨rfl, rfl, rfl⟩ := e2
              refine ⟨?_, ev_rel hE g2⟩
              cases hfi : fs[i]? with
              | none => simp [hfi] at g1
              | some f =>
                simp only [hfi, Bool.and_eq_true, beq_iff_eq] at g1
                simp [hfi, g1.1, g1.2]
            | succ k => exact q2 k i' v off' s z (by simpa using e1) (by simpa using e2)
      obtain ⟨s1, s2⟩ := spec hb
      obtain ⟨cs', r1, r2⟩ := fill_rel (fo := fo) (R := R) (φ := φ) (H := H) (fun i => (fs.map fun f => (f.offset, (sizeP P f.type).getD 0))[i]?) (cs := z.cells) s1 s2 (ALRel.of_pv h1) hf
      have hparts : (parts.map fun (i, x) => (i, a.eval x)).toList = parts.toList.map fun p => (p.1, a.eval p.2) := by simp
      refine Res.same (.agg cs') hS ?_ ?_
      · simp only [Instr.build, Sem.run_bind, zeroValue, run_typeInfo w hi, Result.andThen_ok, hzz, Sem.run_pure, run_underlying hu, hplaces, hparts, r1]
      · have := mkAgg_rel r2
        simpa using this

theorem stF_spec {t : TypeId} {f off : Nat} (h : (match stF P t f with | some fd => fd.offset == off && (match sizeP P fd.type with | some n => n != 0 | none => false) | none => false) = true) :
    ∃ fs fd n, P.underlying t = some (.struct fs) ∧ fs[f]? = some fd ∧ fd.offset = off ∧ sizeP P fd.type = some n ∧ n ≠ 0 := by
  cases hs : stF P t f with
  | none => simp [hs] at h
  | some fd =>
    simp only [hs, Bool.and_eq_true, beq_iff_eq] at h
    obtain ⟨h1, h2⟩ := h
    unfold stF at hs
    split at hs
    · rename_i fs hu
      cases hn : sizeP P fd.type with
      | none => simp [hn] at h2
      | some n => simp [hn] at h2; exact ⟨fs, fd, n, hu, hs, h1, hn, h2⟩
    · cases hs

theorem fld_spec {t : TypeId} {f off n : Nat} {ag : Bool} (h : (match stF P t f with | some fd => fd.offset == off && aggP P fd.type == some ag && (!ag || sizeP P fd.type == some n) | none => false) = true) :
    ∃ fs fd, P.underlying t = some (.struct fs) ∧ fs[f]? = some fd ∧ fd.offset = off ∧ aggP P fd.type = some ag ∧ (ag = true → sizeP P fd.type = some n) := by
  cases hs : stF P t f with
  | none => simp [hs] at h
  | some fd =>
    simp only [hs, Bool.and_eq_true, beq_iff_eq] at h
    obtain ⟨⟨h1, h2⟩, h3⟩ := h
    unfold stF at hs
    split at hs
    · rename_i fs hu
      exact ⟨fs, fd, hu, hs, h1, h2, fun e => by simpa using agOr h3 e⟩
    · cases hs

theorem arr_spec {t : TypeId} {n sz : Nat} (h : (match P.underlying t with | some (.array n' el) => n' == n && sizeP P el == some sz | _ => false) = true) : ∃ el, P.underlying t = some (.array n el) ∧ sizeP P el = some sz := by
  split at h
  · rename_i n' el hu
    simp at h
    obtain ⟨rfl, h⟩ := h
    exact ⟨el, hu, h⟩
  · cases h

theorem arr2_spec {t : TypeId} {n sz : Nat} {ag : Bool} (h : (match P.underlying t with | some (.array n' el) => n' == n && sizeP P el == some sz && aggP P el == some ag | _ => false) = true) : ∃ el, P.underlying t = some (.array n el) ∧ sizeP P el = some sz ∧ aggP P el = some ag := by
  split at h
  · rename_i n' el hu
    simp at h
    obtain ⟨⟨rfl, h⟩, h2⟩ := h
    exact ⟨el, hu, h, h2⟩
  · cases h

theorem bestA_run (mx : Bool) {xs : List AV} {vs : List Value} {p : PV} (hl : ALRel fo (K R φ H) xs vs) (hb : bestA mx xs = some p) :
    ∃ v0 rest v, vs = v0 :: rest ∧ (rest.foldlM (if mx then Builtin.max2 else Builtin.min2) v0).run P w = .ok v w ∧ PRel R p v := by
  unfold bestA at hb
  split at hb
  · rename_i k x r
    cases hl with
    | cons _ _ v vs h1 h2 =>
      rw [asInt_rel h1 rfl]
      obtain ⟨u, q1, q2⟩ := best_run (P := P) (w := w) mx h2 hb
      exact ⟨_, _, u, rfl, q1, q2⟩
  · cases hb

theorem bytes_get (s : ByteArray) (i : Nat) : s[i]? = s.data.toList[i]? := by
  by_cases h : i < s.size
  · rw [getElem?_pos s i h]
    have h2 : i < s.data.toList.length := by rw [Array.length_toList]; exact h
    rw [List.getElem?_eq_getElem h2]
    rfl
  · rw [getElem?_neg s i h]
    have h2 : ¬ i < s.data.toList.length := by rw [Array.length_toList]; exact h
    rw [List.getElem?_eq_none (by omega)]

theorem evalOp_sim {o : Oper} {op : Op} {aop : AOp} {v : AV} (ho : o.op = op) (hok : okOp P fo op aop = true) (hS : SRel fo B0 w R φ H) (hE : ERel fo (K R φ H) e a) (hev : evalOp call e H aop = some (v, H')) :
    Meets P fo B0 o a w R φ H v H' := by
  unfold okOp at hok
  split at hok
  case h_1 x y =>
    simp [evalOp] at hev
    obtain ⟨rfl, rfl⟩ := hev
    exact .of_run hS (by simp [execOp, ho]) (ev_rel hE hok)
  case h_2 x y =>
    simp [evalOp] at hev
    obtain ⟨rfl, rfl⟩ := hev
    exact .of_run hS (by simp [execOp, ho]) (ev_rel hE hok)
  case h_3 c x y c' x' y' =>
    simp only [Bool.and_eq_true] at hok
    simp only [evalOp, Option.bind_eq_some_iff] at hev
    obtain ⟨t, h1, h2⟩ := hev
    simp at h2
    obtain ⟨rfl, rfl⟩ := h2
    have hc := asBool_rel (ev_rel hE hok.1.1) h1
    refine .of_run (v' := if t then a.eval x else a.eval y) hS (by simp [execOp, ho, hc, Go.asBool]) ?_
    cases t
    · exact ev_rel hE hok.2
    · exact ev_rel hE hok.1.2
  case h_4 t zero =>
    simp [evalOp] at hev
    obtain ⟨rfl, rfl⟩ := hev
    exact .of_value (by simp [execOp, ho]) (alloc_sim hS hok)
  case h_5 t x n y =>
    simp only [evalOp] at hev
    split at hev
    · rename_i hc
      simp at hev
      obtain ⟨rfl, rfl⟩ := hev
      exact .of_value (by simp [execOp, ho]) (box_sim (t := t) hS (ev_rel hE hok) hc.2)
    · cases hev
  case h_6 t parts zero aparts =>
    simp only [Bool.and_eq_true] at hok
    obtain ⟨h1, h2⟩ := hok
    simp only [evalOp, Option.map_eq_some_iff, Prod.mk.injEq] at hev
    obtain ⟨cs, hf, rfl, rfl⟩ := hev
    cases hu : P.underlying t with
    | none => simp [hu] at h1
    | some d =>
      cases d with
      | struct fs =>
        simp only [hu, Bool.and_eq_true] at h1
        exact .of_value (s := Instr.build t (parts.map fun (i, x) => (i, a.eval x))) (by simp [execOp, ho]) (build_sim hS hE hu h1.1 h1.2 h2 hf)
      | _ => simp [hu] at h1
  case h_7 t len parts hh sz ag len' zero aparts =>
    simp only [Bool.and_eq_true, beq_iff_eq, decide_eq_true_eq] at hok
    obtain ⟨⟨⟨h1, rfl⟩, h2⟩, h3⟩ := hok
    cases hel : slEl P t with
    | none => simp [hel] at h1
    | some el =>
      simp only [hel] at h1
      simp only [evalOp, Option.bind_eq_some_iff] at hev
      obtain ⟨cs, hf, hfr⟩ := hev
      split at hfr
      · rename_i hone
        obtain ⟨q1, q2⟩ := okParts_spec hE (sz := sz) h3
        have := bslice_sim (fo := fo) (B0 := B0) hS (slEl_spec hel) (okEl_spec h1) h2 q1 q2 hf hone hfr
        refine .of_value (s := Instr.buildSlice t len (parts.map fun (i, x) => (i, a.eval x))) (by simp [execOp, ho]) ?_
        have hp : (parts.map fun (i, x) => (i, a.eval x)) = (parts.toList.map fun p => (p.1, a.eval p.2)).toArray := by
          apply Array.ext'; simp
        rw [hp]
        exact this
      · cases hfr
  case h_8 t x ag n y =>
    simp only [Bool.and_eq_true, beq_iff_eq] at hok
    simp only [evalOp, Option.map_eq_some_iff, Prod.mk.injEq] at hev
    obtain ⟨u, hl, rfl, rfl⟩ := hev
    obtain ⟨vv, h1, h2⟩ := load_sim (P := P) hS (ev_rel hE hok.2) hok.1.1 (fun e => by simpa using agOr hok.1.2 e) hl
    exact .of_value (s := Instr.loadAt t (a.eval x)) (by simp [execOp, ho]) (Res.same vv hS h1 h2)
  case h_9 t p x n q y =>
    simp only [Bool.and_eq_true, beq_iff_eq] at hok
    simp only [evalOp, Option.map_eq_some_iff, Prod.mk.injEq] at hev
    obtain ⟨H1, hl, rfl, rfl⟩ := hev
    obtain ⟨w', φ', h1, h2, h3, h4⟩ := store_sim (P := P) hS (ev_rel hE hok.1.2) (ev_rel hE hok.2) hok.1.1 hl
    intro next Q hn
    unfold Oper.wp
    have : (execOp a.eval o).run P w = .ok .skip w' := by simp [execOp, ho, h1]
    rw [this]
    exact hn undef w' R φ' h2 (.atom _ _ (show PRel R _ _ from .tup [] [] .nil)) h3 h4
  case h_10 x y =>
    simp only [evalOp] at hev
    have hx := ev_rel (R := R) (φ := φ) (H := H) hE hok
    generalize AO.ev e y = z at hev hx
    obtain ⟨vx, hvx⟩ : ∃ vx, a.eval x = vx := ⟨_, rfl⟩
    rw [hvx] at hx
    split at hev
    · rename_i ix caps
      simp at hev
      obtain ⟨rfl, rfl⟩ := hev
      have hx2 := hx
      cases hx2 with
      | atom _ _ h => exact h.elim
      | clo _ _ vs h =>
        refine .of_run hS ?_ hx
        simp [execOp, ho, hvx]
    · simp only [Option.map_eq_some_iff, Prod.mk.injEq] at hev
      obtain ⟨u, hp, rfl, rfl⟩ := hev
      obtain ⟨b, o', h1, h2⟩ := place_rel hS hx hp
      have := place_zero hp
      subst this
      refine .of_run hS ?_ hx
      simp [execOp, ho, hvx, h1]
  case h_11 op' t x y t' op x' y' =>
    simp only [Bool.and_eq_true, decide_eq_true_eq] at hok
    obtain ⟨⟨rfl, h1⟩, h2⟩ := hok
    simp only [evalOp, Option.map_eq_some_iff, Prod.mk.injEq] at hev
    obtain ⟨p, hp, rfl, rfl⟩ := hev
    obtain ⟨u, q1, q2⟩ := bin_run (P := P) (w := w) (ev_rel hE h1) (ev_rel hE h2) hp t x y
    exact .of_value (s := do eqGuard op' t x y (a.eval x) (a.eval y); binOp op' t (a.eval x) (a.eval y)) (by simp [execOp, ho]) (Res.same u hS q1 (.atom _ _ q2))
  case h_12 t x y t' k x' y' =>
    simp only [Bool.and_eq_true, beq_iff_eq] at hok
    simp only [evalOp, Option.map_eq_some_iff, Prod.mk.injEq] at hev
    obtain ⟨b, hb, rfl, rfl⟩ := hev
    have := eq_run hok.1.1 hS (ev_rel hE hok.1.2) (ev_rel hE hok.2) hb .eql (.inl rfl) x y
    exact .of_value (s := do eqGuard .eql t x y (a.eval x) (a.eval y); binOp .eql t (a.eval x) (a.eval y)) (by simp [execOp, ho]) (Res.same _ hS this (.atom _ _ (by simpa [K] using PRel.bool (R := R) b)))
  case h_13 t x y t' k x' y' =>
    simp only [Bool.and_eq_true, beq_iff_eq] at hok
    simp only [evalOp, Option.map_eq_some_iff, Prod.mk.injEq] at hev
    obtain ⟨b, hb, rfl, rfl⟩ := hev
    have := eq_run hok.1.1 hS (ev_rel hE hok.1.2) (ev_rel hE hok.2) hb .neq (.inr rfl) x y
    exact .of_value (s := do eqGuard .neq t x y (a.eval x) (a.eval y); binOp .neq t (a.eval x) (a.eval y)) (by simp [execOp, ho]) (Res.same _ hS this (.atom _ _ (by simpa [K] using PRel.bool (R := R) (!b))))
  case h_14 op' t x op y =>
    simp only [Bool.and_eq_true, decide_eq_true_eq] at hok
    obtain ⟨rfl, h1⟩ := hok
    simp only [evalOp, Option.map_eq_some_iff, Prod.mk.injEq] at hev
    obtain ⟨p, hp, rfl, rfl⟩ := hev
    obtain ⟨u, q1, q2⟩ := un_run (P := P) (w := w) (ev_rel hE h1) hp
    exact .of_value (s := Op.unary op' (a.eval x)) (by simp [execOp, ho]) (Res.same u hS q1 (.atom _ _ q2))
  case h_15 s d x k y =>
    simp only [Bool.and_eq_true] at hok
    simp only [evalOp, Option.map_eq_some_iff, Prod.mk.injEq] at hev
    obtain ⟨⟨k', n⟩, hp, rfl, rfl⟩ := hev
    have hx := asInt_rel (ev_rel hE hok.2) hp
    obtain ⟨ds, hds⟩ := Option.isSome_iff_exists.1 hok.1.1
    have hd : P.underlying d = some (.int k) := by
      have := hok.1.2
      unfold isI at this
      split at this
      · rename_i k2 h; simp at this; subst this; exact h
      · cases this
    refine .of_value (s := convert s d (a.eval x)) (by simp [execOp, ho]) (Res.same _ hS ?_ (.atom _ _ (show PRel R _ _ from .int _ _)))
    rw [hx]; exact conv_run hds hd
  case h_16 s d x y =>
    simp only [Bool.and_eq_true] at hok
    obtain ⟨⟨h1, h2⟩, h3⟩ := hok
    simp only [evalOp, Option.map_eq_some_iff, Prod.mk.injEq] at hev
    obtain ⟨str, hp, rfl, rfl⟩ := hev
    have hx := ev_rel (R := R) (φ := φ) (H := H) hE h3
    cases hel : slEl P s with
    | none => simp [hel] at h1
    | some el =>
      simp only [hel] at h1
      have hs := slEl_spec hel
      have hb : P.underlying el = some (.int .u8) := by
        unfold isB at h1
        split at h1
        · rename_i h; exact h
        · cases h1
      have hd : P.underlying d = some .string := by
        unfold isS at h2
        split at h2
        · rename_i h; exact h
        · cases h2
      have hr := b2s_run (P := P) hS hx hp
      refine .of_value (s := convert s d (a.eval x)) (by simp [execOp, ho]) (Res.same (.string str) hS ?_ (.atom _ _ (show PRel R _ _ from .str _)))
      obtain ⟨sa, sl, sc, hv⟩ := b2s_slice hS hx hp
      rw [hv] at hr ⊢
      rw [run_convert_bytes_string w s d el sa sl sc hs hb hd]
      exact hr
  case h_17 s d x hh y =>
    simp only [Bool.and_eq_true] at hok
    obtain ⟨⟨h1, h2⟩, h3⟩ := hok
    obtain ⟨ds, hds⟩ := Option.isSome_iff_exists.1 h1
    simp only [evalOp] at hev
    have hx := ev_rel (R := R) (φ := φ) (H := H) hE h3
    split at hev
    · rename_i b hy
      rw [hy] at hx
      obtain ⟨vx, hvx⟩ : ∃ vx, a.eval x = vx := ⟨_, rfl⟩
      rw [hvx] at hx
      have hp := hx.pv_inv
      cases hp
      cases hel : slEl P d with
      | none => simp [hel] at h2
      | some el =>
        simp only [hel] at h2
        have hb : P.underlying el = some (.int .u8) := by
          unfold isB at h2
          split at h2
          · rename_i h; exact h
          · cases h2
        exact .of_value (s := convert s d (.string b)) (by simp [execOp, ho, hvx]) (s2b_sim hS hds (slEl_spec hel) hb hev)
    · cases hev
  case h_18 f first caps ix ys =>
    simp only [Bool.and_eq_true, beq_iff_eq] at hok
    obtain ⟨⟨h1, rfl⟩, h2⟩ := hok
    simp [evalOp] at hev
    obtain ⟨rfl, rfl⟩ := hev
    have hf : first = #[] := by simpa using h1
    have := evs_rel (R := R) (φ := φ) (H := H) hE h2
    refine .of_value (s := Instr.makeFunc (.func (fo ix)) (first.map a.eval) (caps.map a.eval)) (by simp [execOp, ho]) (Res.same (.func (.func (fo ix)) #[] (caps.map a.eval)) hS (by simp [Instr.makeFunc, hf]) ?_)
    have hcaps : caps.map a.eval = ⟨caps.toList.map a.eval⟩ := by apply Array.ext'; simp
    rw [hcaps]
    exact .clo _ _ _ this
  case h_19 t l c hh sz ag zero bytes l' c' =>
    simp only [Bool.and_eq_true, decide_eq_true_eq] at hok
    obtain ⟨⟨⟨h1, h2⟩, h3⟩, h4⟩ := hok
    cases hel : slEl P t with
    | none => simp [hel] at h1
    | some el =>
      simp only [hel, Bool.and_eq_true, beq_iff_eq] at h1
      simp only [evalOp, Option.bind_eq_some_iff] at hev
      obtain ⟨⟨kl, nl⟩, hl, ⟨kc, nc⟩, hc, hif⟩ := hev
      split at hif
      · rename_i hcond
        have e1 := asInt_rel (ev_rel hE h3) hl
        have e2 := asInt_rel (ev_rel hE h4) hc
        refine .of_value (s := Instr.makeSlice t (a.eval l) (a.eval c)) (by simp [execOp, ho]) ?_
        rw [e1, e2]
        exact mkslice_sim hS (slEl_spec hel) (okEl_spec h1.1) h1.2 h2 hcond.1 hcond.2.1 hcond.2.2 hif
      · cases hif
  case h_20 t x lo hi sz y lo' hi' =>
    simp only [Bool.and_eq_true] at hok
    obtain ⟨⟨⟨h1, h2⟩, h3⟩, h4⟩ := hok
    have hx := ev_rel (R := R) (φ := φ) (H := H) hE h2
    have hu : (sz ≠ 0 ∧ ∃ el, P.underlying t = some (.slice el) ∧ sizeP P el = some sz) ∨ (sz = 0 ∧ P.underlying t = some .string) := by
      cases hu : P.underlying t with
      | none => simp [hu] at h1
      | some d =>
        cases d <;> simp [hu] at h1
        · exact .inr ⟨h1, rfl⟩
        · exact .inl ⟨h1.1, _, rfl, h1.2⟩
    have fin : ∀ {l h : Option Int}, ((lo.map a.eval = none ∧ l = none) ∨ ∃ k n, lo.map a.eval = some (.int k n) ∧ l = some n) → ((hi.map a.eval = none ∧ h = none) ∨ ∃ k n, hi.map a.eval = some (.int k n) ∧ h = some n) →
        (sliceA H sz (AO.ev e y) l h).map (fun v => (v, H)) = some (v, H') → Meets P fo B0 o a w R φ H v H' := by
      intro l h hl hh hsl
      simp only [Option.map_eq_some_iff, Prod.mk.injEq] at hsl
      obtain ⟨u, hu2, rfl, rfl⟩ := hsl
      exact .of_value (s := Instr.sliceAt t (a.eval x) (lo.map a.eval) (hi.map a.eval) none) (by simp [execOp, ho]) (slice_sim hS hx hu hl hh hu2)
    rcases opt_rel hE h3 with ⟨rfl, rfl⟩ | ⟨x1, y1, rfl, rfl, g1⟩ <;> rcases opt_rel hE h4 with ⟨rfl, rfl⟩ | ⟨x2, y2, rfl, rfl, g2⟩
    · simp only [evalOp] at hev
      exact fin (.inl ⟨rfl, rfl⟩) (.inl ⟨rfl, rfl⟩) hev
    · simp only [evalOp, Option.bind_eq_some_iff] at hev
      obtain ⟨⟨k, n⟩, h5, h6⟩ := hev
      exact fin (.inl ⟨rfl, rfl⟩) (.inr ⟨k, n, by simp [asInt_rel (ev_rel hE g2) h5], rfl⟩) h6
    · simp only [evalOp, Option.bind_eq_some_iff] at hev
      obtain ⟨⟨k, n⟩, h5, h6⟩ := hev
      exact fin (.inr ⟨k, n, by simp [asInt_rel (ev_rel hE g1) h5], rfl⟩) (.inl ⟨rfl, rfl⟩) h6
    · simp only [evalOp, Option.bind_eq_some_iff] at hev
      obtain ⟨⟨k, n⟩, h5, ⟨k2, n2⟩, h7, h6⟩ := hev
      exact fin (.inr ⟨k, n, by simp [asInt_rel (ev_rel hE g1) h5], rfl⟩) (.inr ⟨k2, n2, by simp [asInt_rel (ev_rel hE g2) h7], rfl⟩) h6
  case h_21 t x f off y =>
    simp only [Bool.and_eq_true] at hok
    obtain ⟨h1, h2⟩ := hok
    simp only [evalOp, Option.map_eq_some_iff, Prod.mk.injEq] at hev
    obtain ⟨u, hp, rfl, rfl⟩ := hev
    obtain ⟨fs, fd, n, hu, hf, rfl, hn, hn0⟩ := stF_spec h1
    exact .of_value (s := Instr.fieldAt t (a.eval x) f) (by simp [execOp, ho]) (faddr_sim hS (ev_rel hE h2) hu hf hn hn0 hp)
  case h_22 t x f off ag n y =>
    simp only [Bool.and_eq_true] at hok
    obtain ⟨h1, h2⟩ := hok
    have hx := ev_rel (R := R) (φ := φ) (H := H) hE h2
    obtain ⟨fs, fd, hu, hf, rfl, ha, hn⟩ := fld_spec h1
    simp only [evalOp] at hev
    refine .of_value (s := Instr.field t (a.eval x) f) (by simp [execOp, ho]) ?_
    have hrun : ∀ vs : Array Value, (Instr.field t (.agg vs) f).run P w = (part fd.type vs fd.offset).run P w := by
      intro vs; simp [Instr.field, run_underlying hu, hf, asAgg]
    obtain ⟨i1, i2⟩ := agg_inv hx
    split at hev
    · rename_i cs hy
      obtain ⟨vs, e1, e2⟩ := i1 cs hy
      simp only [Option.map_eq_some_iff, Prod.mk.injEq] at hev
      obtain ⟨p, hp, rfl, rfl⟩ := hev
      rw [ResV, e1, hrun]
      exact fldP_sim hS ha hn e2 hp
    · rename_i cs hy
      obtain ⟨vs, e1, e2⟩ := i2 cs hy
      simp only [Option.map_eq_some_iff, Prod.mk.injEq] at hev
      obtain ⟨p, hp, rfl, rfl⟩ := hev
      rw [ResV, e1, hrun]
      exact fldA_sim hS ha hn e2 hp
    · cases hev
  case h_23 t x i sz y j =>
    simp only [Bool.and_eq_true] at hok
    obtain ⟨⟨h1, h2⟩, h3⟩ := hok
    simp only [evalOp, Option.bind_eq_some_iff, Option.map_eq_some_iff, Prod.mk.injEq] at hev
    obtain ⟨⟨k, n⟩, hi, u, hp, rfl, rfl⟩ := hev
    have e1 := asInt_rel (ev_rel hE h3) hi
    cases hel : slEl P t with
    | none => simp [hel] at h1
    | some el =>
      simp only [hel, beq_iff_eq] at h1
      refine .of_value (s := Instr.indexAt t (a.eval x) (a.eval i)) (by simp [execOp, ho]) ?_
      rw [e1]
      exact iaddr_sim hS (ev_rel hE h2) (slEl_spec hel) h1 hp
  case h_24 t x i n sz y j =>
    simp only [Bool.and_eq_true] at hok
    obtain ⟨⟨h1, h2⟩, h3⟩ := hok
    simp only [evalOp, Option.bind_eq_some_iff] at hev
    obtain ⟨⟨k, m⟩, hi, hif⟩ := hev
    split at hif
    · rename_i hix
      simp only [Option.map_eq_some_iff, Prod.mk.injEq] at hif
      obtain ⟨u, hp, rfl, rfl⟩ := hif
      have e1 := asInt_rel (ev_rel hE h3) hi
      obtain ⟨el, hu, hsz⟩ := arr_spec h1
      refine .of_value (s := Instr.indexAt t (a.eval x) (a.eval i)) (by simp [execOp, ho]) ?_
      rw [e1]
      exact iaddrA_sim hS (ev_rel hE h2) hu hsz hix hp
    · cases hif
  case h_25 t x i n sz ag y j =>
    simp only [Bool.and_eq_true] at hok
    obtain ⟨⟨h1, h2⟩, h3⟩ := hok
    have hx := ev_rel (R := R) (φ := φ) (H := H) hE h2
    simp only [evalOp, Option.bind_eq_some_iff] at hev
    obtain ⟨⟨k, m⟩, hi, hif⟩ := hev
    split at hif
    · rename_i hix
      have e1 := asInt_rel (ev_rel hE h3) hi
      obtain ⟨el, hu, hsz, ha⟩ := arr2_spec h1
      refine .of_value (s := Instr.index t (a.eval x) (a.eval i)) (by simp [execOp, ho]) ?_
      obtain ⟨g1, g2⟩ := hix
      have hrun : ∀ vs : Array Value, (Instr.index t (.agg vs) (.int k m)).run P w = (part el vs (m.toNat * sz)).run P w := by
        intro vs; simp only [] at g1 g2; simp [Instr.index, asIntOf, run_underlying hu, g1, g2, run_sizeOf' hsz]
      obtain ⟨i1, i2⟩ := agg_inv hx
      split at hif
      · rename_i cs hy
        obtain ⟨vs, e2, e3⟩ := i1 cs hy
        simp only [Option.map_eq_some_iff, Prod.mk.injEq] at hif
        obtain ⟨p, hp, rfl, rfl⟩ := hif
        rw [ResV, e1, e2, hrun]
        exact fldP_sim hS ha (fun _ => hsz) e3 hp
      · rename_i cs hy
        obtain ⟨vs, e2, e3⟩ := i2 cs hy
        simp only [Option.map_eq_some_iff, Prod.mk.injEq] at hif
        obtain ⟨p, hp, rfl, rfl⟩ := hif
        rw [ResV, e1, e2, hrun]
        exact fldA_sim hS ha (fun _ => hsz) e3 hp
      · cases hif
    · cases hif
  case h_26 t x i y j =>
    simp only [Bool.and_eq_true] at hok
    obtain ⟨⟨h1, h2⟩, h3⟩ := hok
    have hx := ev_rel (R := R) (φ := φ) (H := H) hE h2
    have hd : P.underlying t = some .string := by
      unfold isS at h1
      split at h1
      · rename_i h; exact h
      · cases h1
    simp only [evalOp, Option.bind_eq_some_iff] at hev
    obtain ⟨⟨k, m⟩, hi, hif⟩ := hev
    have e1 := asInt_rel (ev_rel hE h3) hi
    split at hif
    · rename_i str hy
      split at hif
      · rename_i hm
        simp only [Option.map_eq_some_iff, Prod.mk.injEq] at hif
        obtain ⟨b, hb, rfl, rfl⟩ := hif
        rw [hy] at hx
        obtain ⟨vx, hvx⟩ : ∃ vx, a.eval x = vx := ⟨_, rfl⟩
        rw [hvx] at hx
        have hp := hx.pv_inv
        cases hp
        have hb' : str[m.toNat]? = some b := by rw [← hb]; exact bytes_get _ _
        refine .of_value (s := Instr.index t (a.eval x) (a.eval i)) (by simp [execOp, ho]) (Res.same (.int .u8 b.toNat) hS ?_ (.atom _ _ (show PRel R _ _ from .int _ _)))
        rw [hvx, e1]
        simp only [] at hm
        simp [Instr.index, asIntOf, run_underlying hd, hm, hb']
      · cases hif
    · cases hif
  case h_27 x i i' y =>
    simp only [Bool.and_eq_true, beq_iff_eq] at hok
    obtain ⟨rfl, h1⟩ := hok
    have hx := ev_rel (R := R) (φ := φ) (H := H) hE h1
    simp only [evalOp] at hev
    obtain ⟨i1, i2⟩ := tup_inv hx
    refine .of_value (s := Instr.extract (a.eval x) i) (by simp [execOp, ho]) ?_
    split at hev
    · rename_i cs hy
      obtain ⟨vs, e1, e2⟩ := i1 cs hy
      simp only [Option.map_eq_some_iff, Prod.mk.injEq] at hev
      obtain ⟨p, hp, rfl, rfl⟩ := hev
      obtain ⟨u, hu, hr⟩ := e2.get hp
      rw [e1]
      exact Res.same u hS (by simp [Instr.extract, hu]) (.atom _ _ hr)
    · rename_i cs hy
      obtain ⟨vs, e1, e2⟩ := i2 cs hy
      simp only [Option.map_eq_some_iff, Prod.mk.injEq] at hev
      obtain ⟨p, hp, rfl, rfl⟩ := hev
      obtain ⟨u, hu, hr⟩ := e2.get hp
      rw [e1]
      exact Res.same u hS (by simp [Instr.extract, hu]) hr
    · cases hev
  case h_28 args argTypes k y =>
    simp only [evalOp, Option.map_eq_some_iff, Prod.mk.injEq] at hev
    obtain ⟨n, hn, rfl, rfl⟩ := hev
    split at hok
    · rename_i x t hargs htys
      simp only [Bool.and_eq_true] at hok
      have ha : args = #[x] := by apply Array.ext'; simpa using hargs
      have ht : argTypes = #[t] := by apply Array.ext'; simpa using htys
      subst ha ht
      have hu : (k = 0 ∧ ∃ e, P.underlying t = some (.slice e)) ∨ (k = 1 ∧ P.underlying t = some .string) := by
        have := hok.2
        cases hu : P.underlying t with
        | none => simp [hu] at this
        | some d => cases d <;> simp [hu] at this <;> simp_all
      exact .of_value (s := Builtin.len_ #[t] o.type #[a.eval x]) (by simp [execOp, ho, resolve, invoke, builtin]) (len_sim hS (ev_rel hE hok.1) hu hn)
    · cases hok
  case h_29 args tys ys =>
    simp only [evalOp, Option.map_eq_some_iff, Prod.mk.injEq] at hev
    obtain ⟨p, hp, rfl, rfl⟩ := hev
    have hl := evs_rel (R := R) (φ := φ) (H := H) hE hok
    obtain ⟨v0, rest, u, q0, q1, q2⟩ := bestA_run (P := P) (w := w) true hl hp
    exact .of_value (s := Builtin.max_ tys o.type (args.map a.eval)) (by simp [execOp, ho, resolve, invoke, builtin]) (Res.same u hS (by simp only [Builtin.max_, Array.toList_map, q0]; simpa using q1) (.atom _ _ q2))
  case h_30 args tys ys =>
    simp only [evalOp, Option.map_eq_some_iff, Prod.mk.injEq] at hev
    obtain ⟨p, hp, rfl, rfl⟩ := hev
    have hl := evs_rel (R := R) (φ := φ) (H := H) hE hok
    obtain ⟨v0, rest, u, q0, q1, q2⟩ := bestA_run (P := P) (w := w) false hl hp
    exact .of_value (s := Builtin.min_ tys o.type (args.map a.eval)) (by simp [execOp, ho, resolve, invoke, builtin]) (Res.same u hS (by simp only [Builtin.min_, Array.toList_map, q0]; simpa using q1) (.atom _ _ q2))
  case h_31 args argTypes own hh sz ag bytes s y =>
    simp only [evalOp] at hev
    split at hok
    · rename_i x z t tx hargs htys
      simp only [Bool.and_eq_true] at hok
      have ha : args = #[x, z] := by apply Array.ext'; simpa using hargs
      have ht : argTypes = #[t, tx] := by apply Array.ext'; simpa using htys
      subst ha ht
      obtain ⟨⟨h1, h2⟩, h3⟩ := hok
      cases hel : slEl P t with
      | none => simp [hel] at h3
      | some el =>
        simp only [hel, Bool.and_eq_true] at h3
        have hA := okApp_spec h3.1
        refine .of_value (s := Builtin.append_ #[t, tx] o.type #[a.eval x, a.eval z]) (by simp [execOp, ho, resolve, invoke, builtin]) ?_
        have hs := ev_rel (R := R) (φ := φ) (H := H) hE h1
        have hx := ev_rel (R := R) (φ := φ) (H := H) hE h2
        generalize AO.ev e s = sv at hev hs
        generalize AO.ev e y = xv at hev hx
        unfold appendA at hev
        split at hev
        · split at hev
          · split at hev
            · rename_i id len sz' ag' cells fl nl hid
              simp only [Option.bind_eq_some_iff] at hev
              obtain ⟨⟨m, cs⟩, hy, hif⟩ := hev
              split at hif
              · rename_i hc
                obtain ⟨rfl, hc1, hc2, hc3⟩ := hc
                simp only [Option.some.injEq, Prod.mk.injEq] at hif
                obtain ⟨rfl, rfl⟩ := hif
                exact append_own hS hA hs hx hid hc1 hy hc3 hc2
              · cases hif
            · cases hev
          · cases hev
        · split at hev
          · split at hev
            · rename_i id nl sz' es sz2 n nl2 hid
              simp only [Option.bind_eq_some_iff] at hev
              obtain ⟨ys, hy, hif⟩ := hev
              split at hif
              · rename_i hc
                obtain ⟨rfl, rfl, hc1, hc2⟩ := hc
                simp only [Option.some.injEq, Prod.mk.injEq] at hif
                obtain ⟨rfl, rfl⟩ := hif
                exact append_uq hS hA hs hx hid hc1 hy hc2
              · cases hif
            · cases hev
          · simp only [Option.bind_eq_some_iff] at hev
            obtain ⟨ys, hy, hif⟩ := hev
            split at hif
            · rename_i hc
              have hp := hs.pv_inv
              obtain ⟨vs, hvs⟩ : ∃ vs, a.eval x = vs := ⟨_, rfl⟩
              rw [hvs] at hp ⊢
              cases hp
              exact append_nils hS hA hx hy hc hif
            · cases hif
          · cases hev
    · cases hok
  case h_32 t x n y =>
    simp only [evalOp] at hev
    split at hev
    · rename_i hc
      simp only [Option.map_eq_some_iff, Prod.mk.injEq] at hev
      obtain ⟨ps, hps, rfl, rfl⟩ := hev
      exact .of_value (by simp [execOp, ho]) (boxR_sim (t := t) hS (ev_rel hE hok) hc.2 hps)
    · cases hev
  case h_33 => cases hok

end ops
end Go.AM
