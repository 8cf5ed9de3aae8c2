/- An abstract machine for the code of Go functions, and what each of its operations means in the model. -/
import Derived.WalkKit
import Derived.Orders
import Derived.KernelRfl
namespace Go
theorem caa:type_of% @List.getElem?_eq_getElem:=@List.getElem?_eq_getElem
theorem daa:type_of% @Bool.and_eq_true:=@Bool.and_eq_true
theorem eaa:type_of% @Option.some.injEq:=@Option.some.injEq
theorem faa:type_of% @Option.map_eq_some_iff:=@Option.map_eq_some_iff
theorem gaa:type_of% @List.getElem?_append_left:=@List.getElem?_append_left
theorem paa:type_of% @List.length_map:=@List.length_map
theorem qaa:type_of% @List.getElem?_eq_some_iff:=@List.getElem?_eq_some_iff
theorem saa:type_of% @List.getElem_mem:=@List.getElem_mem
theorem taa:type_of% @if_neg:=@if_neg
theorem uaa:type_of% @Option.bind_eq_some_iff:=@Option.bind_eq_some_iff
theorem vaa:type_of% @Prod.mk.injEq:=@Prod.mk.injEq
theorem waa:type_of% @Nat.le_refl:=@Nat.le_refl
theorem yaa:type_of% @List.eq_nil_of_length_eq_zero:=@List.eq_nil_of_length_eq_zero
theorem Aaa:type_of% @List.length_append:=@List.length_append
theorem Baa:type_of% @Bool.false_eq_true:=@Bool.false_eq_true
theorem Caa:type_of% @List.getD_eq_getElem?_getD:=@List.getD_eq_getElem?_getD
theorem Daa:type_of% @Option.bind_some:=@Option.bind_some
theorem Eaa:type_of% @Int.toNat_natCast:=@Int.toNat_natCast
theorem Faa:type_of% @List.getElem?_map:=@List.getElem?_map
theorem Jaa:type_of% @List.getElem?_set_ne:=@List.getElem?_set_ne
theorem Kaa:type_of% @Option.map_some:=@Option.map_some
theorem Laa:type_of% @eq_true:=@eq_true
theorem Naa:type_of% @List.mem_append:=@List.mem_append
theorem Paa:type_of% @List.getElem?_append_right:=@List.getElem?_append_right
theorem Qaa:type_of% @List.getElem?_set_self:=@List.getElem?_set_self
theorem Raa:type_of% @List.length_cons:=@List.length_cons
theorem Waa:type_of% @List.drop_eq_getElem_cons:=@List.drop_eq_getElem_cons
theorem Xaa:type_of% @Nat.lt_or_ge:=@Nat.lt_or_ge
theorem Yaa:type_of% @List.getElem?_eq_none:=@List.getElem?_eq_none
theorem Zaa:type_of% @List.take_of_length_le:=@List.take_of_length_le
theorem aab:type_of% @List.all_eq_true:=@List.all_eq_true
theorem bab:type_of% @List.mem_cons:=@List.mem_cons
theorem cab:type_of% @List.nil_append:=@List.nil_append
theorem eab:type_of% @Nat.zero_add:=@Nat.zero_add
theorem fab:type_of% @List.cons_append:=@List.cons_append
theorem jab:type_of% @List.getElem?_cons_zero:=@List.getElem?_cons_zero
theorem mab:type_of% @List.getElem?_cons_succ:=@List.getElem?_cons_succ
theorem oab:type_of% @List.mem_map:=@List.mem_map
theorem pab:type_of% @List.map_cons:=@List.map_cons
theorem qab:type_of% @Array.getD_eq_getD_getElem?:=@Array.getD_eq_getD_getElem?
theorem sab:type_of% @List.mem_of_getElem?:=@List.mem_of_getElem?
theorem uab:type_of% @Bool.true_and:=@Bool.true_and
theorem Dab:type_of% @List.length_nil:=@List.length_nil
theorem Eab:type_of% @List.getElem_of_mem:=@List.getElem_of_mem
theorem Fab:type_of% @List.take_length:=@List.take_length
theorem Hab:type_of% @List.drop_length:=@List.drop_length
theorem Kab:type_of% @List.append_nil:=@List.append_nil
theorem Lab:type_of% @List.length_take:=@List.length_take
theorem Nab:type_of% @List.mem_or_eq_of_mem_set:=@List.mem_or_eq_of_mem_set
theorem Oab:type_of% @List.append_assoc:=@List.append_assoc
theorem Pab:type_of% @List.length_drop:=@List.length_drop
theorem Rab:type_of% @List.getElem?_take:=@List.getElem?_take
theorem Sab:type_of% @List.mem_singleton:=@List.mem_singleton
theorem Vab:type_of% @List.ext_getElem?:=@List.ext_getElem?
theorem Xab:type_of% @List.set_append_right:=@List.set_append_right
theorem Zab:type_of% @List.length_pos_iff:=@List.length_pos_iff
theorem aac:type_of% @List.flatten_cons:=@List.flatten_cons
theorem bac:type_of% @List.mem_of_mem_drop:=@List.mem_of_mem_drop
theorem cac:type_of% @List.length_replicate:=@List.length_replicate
theorem dac:type_of% @List.drop_eq_nil_of_le:=@List.drop_eq_nil_of_le
theorem eac:type_of% @Nat.lt_of_lt_of_le:=@Nat.lt_of_lt_of_le
theorem jac:type_of% @List.take_append_drop:=@List.take_append_drop
theorem mac:type_of% @List.length_range:=@List.length_range
theorem nac:type_of% @List.set_cons_zero:=@List.set_cons_zero
theorem oac:type_of% @List.not_mem_nil:=@List.not_mem_nil
theorem pac:type_of% @List.map_congr_left:=@List.map_congr_left
theorem qac:type_of% @List.map_append:=@List.map_append
theorem rac:type_of% @Ne.symm:=@Ne.symm
theorem sac:type_of% @Nat.le_trans:=@Nat.le_trans
theorem tac:type_of% @Bool.not_eq_true':=@Bool.not_eq_true'
theorem uac:type_of% @List.length_set:=@List.length_set
theorem vac:type_of% @Int.toNat_of_nonneg:=@Int.toNat_of_nonneg
theorem wac:type_of% @Nat.mul_le_mul_right:=@Nat.mul_le_mul_right
theorem xac:type_of% @List.mem_of_mem_take:=@List.mem_of_mem_take
theorem yac:type_of% @Int.mul_le_mul_of_nonneg_left:=@Int.mul_le_mul_of_nonneg_left
theorem zac:type_of% @List.all_cons:=@List.all_cons
theorem Aac:type_of% @List.drop_zero:=@List.drop_zero
theorem Bac:type_of% @List.set_append_left:=@List.set_append_left
theorem Cac:type_of% @List.getElem?_take_of_lt:=@List.getElem?_take_of_lt
theorem Dac:type_of% @List.mem_iff_getElem?:=@List.mem_iff_getElem?
theorem Eac:type_of% @Nat.add_sub_cancel_left:=@Nat.add_sub_cancel_left
theorem Fac:type_of% @Bool.false_and:=@Bool.false_and
theorem Iac:type_of% @Nat.zero_le:=@Nat.zero_le
theorem Jac:type_of% @List.take_append_of_le_length:=@List.take_append_of_le_length
theorem Kac:type_of% @Int.le_refl:=@Int.le_refl
theorem Mac:type_of% @List.set_cons_succ:=@List.set_cons_succ
theorem Oac:type_of% @Bool.or_eq_true:=@Bool.or_eq_true
theorem Pac:type_of% @List.mem_range:=@List.mem_range
theorem Qac:type_of% @Array.ext':=@Array.ext'
theorem Uac:type_of% @Array.getElem?_eq_some_iff:=@Array.getElem?_eq_some_iff
theorem Yac:type_of% @Nat.le_of_mul_le_mul_right:=@Nat.le_of_mul_le_mul_right
theorem Zac:type_of% @Nat.eq_zero_or_pos:=@Nat.eq_zero_or_pos
theorem aad:type_of% @Option.getD_some:=@Option.getD_some
theorem ead:type_of% @Int.mul_le_mul_of_nonneg_right:=@Int.mul_le_mul_of_nonneg_right
theorem fad:type_of% @List.pairwise_iff_getElem:=@List.pairwise_iff_getElem
theorem jad:type_of% @List.drop_succ_cons:=@List.drop_succ_cons
theorem lad:type_of% @List.getElem?_range:=@List.getElem?_range
theorem rad:type_of% @List.flatMap_cons:=@List.flatMap_cons
theorem sad:type_of% @Array.getElem?_modify:=@Array.getElem?_modify
theorem tad:type_of% @List.length_singleton:=@List.length_singleton
theorem uad:type_of% @Nat.sub_self:=@Nat.sub_self
theorem vad:type_of% @List.range_succ:=@List.range_succ
theorem wad:type_of% @List.map_map:=@List.map_map
theorem xad:type_of% @List.map_replicate:=@List.map_replicate
theorem yad:type_of% @List.take_succ_cons:=@List.take_succ_cons
theorem zad:type_of% @Array.length_toList:=@Array.length_toList
theorem Aad:type_of% @List.foldl_cons:=@List.foldl_cons
theorem Bad:type_of% @Option.some.inj:=@Option.some.inj
theorem Cad:type_of% @Array.getElem?_eq_getElem:=@Array.getElem?_eq_getElem
theorem Dad:type_of% @List.ext_getElem:=@List.ext_getElem
theorem Ead:type_of% @Option.isSome_iff_exists:=@Option.isSome_iff_exists
theorem Fad:type_of% @List.eq_of_mem_replicate:=@List.eq_of_mem_replicate
theorem Had:type_of% @Bool.or_eq_false_iff:=@Bool.or_eq_false_iff
theorem Kad:type_of% @List.foldl_append:=@List.foldl_append
theorem Pad:type_of% @Nat.mul_eq_zero:=@Nat.mul_eq_zero
theorem Qad:type_of% @Array.getElem?_eq_none:=@Array.getElem?_eq_none
theorem Rad:type_of% @List.map_nil:=@List.map_nil
theorem Tad:type_of% @Bool.false_or:=@Bool.false_or
theorem Uad:type_of% @Nat.lt_succ_self:=@Nat.lt_succ_self
theorem Vad:type_of% @List.any_eq_true:=@List.any_eq_true
theorem Wad:type_of% @List.pairwise_cons:=@List.pairwise_cons
theorem Yad:type_of% @List.getElem_range:=@List.getElem_range
theorem cae:type_of% @List.eq_nil_or_concat:=@List.eq_nil_or_concat
theorem dae:type_of% @List.concat_eq_append:=@List.concat_eq_append
theorem eae:type_of% @Decidable.byContradiction:=@Decidable.byContradiction
theorem fae:type_of% @Bool.eq_iff_iff:=@Bool.eq_iff_iff
theorem gae:type_of% @List.pairwise_append:=@List.pairwise_append
theorem jae:type_of% @Int.mul_comm:=@Int.mul_comm
theorem mae:type_of% @Bool.and_true:=@Bool.and_true
theorem nae:type_of% @Bool.or_false:=@Bool.or_false
theorem qae:type_of% @Bool.and_self:=@Bool.and_self
theorem rae:type_of% @List.getElem_map:=@List.getElem_map
theorem tae:type_of% @Nat.add_zero:=@Nat.add_zero
theorem uae:type_of% @List.getElem?_drop:=@List.getElem?_drop
theorem vae:type_of% @Nat.succ_mul:=@Nat.succ_mul
theorem wae:type_of% @Nat.sub_zero:=@Nat.sub_zero
theorem xae:type_of% @List.map_set:=@List.map_set
theorem Cae:type_of% @List.drop_of_length_le:=@List.drop_of_length_le
theorem Dae:type_of% @List.cons.injEq:=@List.cons.injEq
theorem Fae:type_of% @List.take_add_one:=@List.take_add_one
theorem Gae:type_of% @Nat.mod_lt:=@Nat.mod_lt
theorem Hae:type_of% @List.drop_append:=@List.drop_append
theorem Iae:type_of% @List.take_append:=@List.take_append
theorem Jae:type_of% @Nat.mod_eq_of_lt:=@Nat.mod_eq_of_lt
theorem Kae:type_of% @Nat.zero_mul:=@Nat.zero_mul
theorem Lae:type_of% @List.mem_flatten:=@List.mem_flatten
theorem Mae:type_of% @List.flatMap_nil:=@List.flatMap_nil
theorem Nae:type_of% @List.getElem_set:=@List.getElem_set
theorem Pae:type_of% @Int.one_mul:=@Int.one_mul
end Go
set_option linter.unusedVariables false
set_option linter.unusedSimpArgs false
namespace Go.AM
inductive PV where
 |int (k:IntKind) (n:Int)
 |bool (b:Bool)
 |str (s:ByteArray)
 |qf | ga | nw | Pw | PB
 |rp (row:List PV) (off:Nat)
 |lit (sz:Nat) (es:List PV)
 |agg (cs:List PV)
 |mc (vs:List PV)
 |iface (t:TypeId) (v:PV)
 deriving Inhabited
def PV.cells:PV->List PV
 | .agg cs=>cs
 |v=>[v]
def flat:List PV->List PV
 | []=>[]
 |e::es=>e.cells++flat es
inductive AV where
 |pv (p:PV)
 |ptr (id off:Nat)
 |Ec (id n off:Nat)
 |uq (id:Nat) (nl:Bool) (sz:Nat) (es:List PV)
 |own (id len:Nat)
 |Ol (ix:Nat) (caps:List AV)
 |mp (id:Nat)
 |agg (cs:List AV)
 |mc (vs:List AV)
 |undef
 deriving Inhabited
def AV.cells:AV->List AV
 | .pv p=>p.cells.map .pv
 | .agg cs=>cs
 |v=>[v]
def AV.one:AV->Bool
 | .pv (.agg _) | .pv (.mc _) | .agg _ | .mc _ | .undef=>false
 |_=>true
def Tc:List AV->Option (List PV)
 | []=>some []
 | .pv p::r=>(Tc r).map (p:: ·)
 |_=>none
def gv(cs:List AV):AV:=
 match Tc cs with
 |some ps=> .pv (.agg ps)
 |none=> .agg cs
def qy(cs:List AV):AV:=
 match Tc cs with
 |some ps=> .pv (.mc ps)
 |none=> .mc cs
inductive ba where
 |box (cells:List AV)
 |seq (sz:Nat) (ag:Bool) (cells:List AV) (fl:Nat) (nl:Bool)
 |tok (sz n:Nat) (nl:Bool)
 |map (es:List (PV×PV))
 |dead
 deriving Inhabited
inductive Tr where
 |lf
 |nd (v:AV) (a b:Tr)
def Tr.get:Tr->Nat->AV
 | .lf,_=> .undef
 | .nd v a b,k=>cond (Nat.beq k 0) v (cond (Nat.beq (k % 2) 1) (a.get (k / 2)) (b.get (k / 2 - 1)))
def Tr.xN:Nat->Tr->Nat->AV->Tr
 |0,t,_,_=>t
 |f+1,.lf,k,v=>cond (Nat.beq k 0) (.nd v .lf .lf) (cond (Nat.beq (k % 2) 1) (.nd .undef (xN f .lf (k / 2) v) .lf) (.nd .undef .lf (xN f .lf (k / 2 - 1) v)))
 |f+1,.nd u a b,k,v=>cond (Nat.beq k 0) (.nd v a b) (cond (Nat.beq (k % 2) 1) (.nd u (xN f a (k / 2) v) b) (.nd u a (xN f b (k / 2 - 1) v)))
def Tr.set(t:Tr)(k:Nat)(v:AV):Tr:=t.xN (k+1) k v
theorem QB{a b:Nat}(h:¬a=b):Nat.beq a b=false:=by
 cases e:Nat.beq a b with
 |false=>rfl
 |true=>exact absurd (Nat.eq_of_beq_eq_true e) h
theorem IU{a b:Nat}(h:a=b):Nat.beq a b=true:=by subst h;exact Nat.beq_refl a
theorem Tr.wX:∀ (f:Nat)(t:Tr)(k:Nat)(v:AV)(j:Nat),k < f->(t.xN f k v).get j=if j=k then v else t.get j:=by
 intro f
 induction f with
 |zero=>intro t k v j h;omega
 |succ f ih=>
  intro t k v j h;cases t with
  |lf=>
   unfold Tr.xN
   by_cases hk:k=0
   ·subst hk
    simp only[Nat.beq_refl,cond_true,Tr.get]
    by_cases hj:j=0
    ·subst hj;simp
    ·have:Nat.beq j 0=false:=QB hj
     simp[this,hj]
   ·have hk':Nat.beq k 0=false:=QB hk
    simp only[hk',cond_false]
    by_cases hp:k % 2=1
    ·have hp':Nat.beq (k % 2) 1=true:=IU hp
     simp only[hp',cond_true,Tr.get]
     by_cases hj:j=0
     ·subst hj;simp[rac hk]
     ·have hj':Nat.beq j 0=false:=QB hj
      simp only[hj',cond_false]
      by_cases hjp:j % 2=1
      ·have x9:Nat.beq (j % 2) 1=true:=IU hjp
       simp only[x9,cond_true];rw[ih _ _ _ _ (by omega)]
       by_cases hjk:j=k
       ·subst hjk;simp
       ·have:¬j / 2=k / 2:=by omega
        simp[this,hjk,Tr.get]
      ·have x9:Nat.beq (j % 2) 1=false:=QB hjp
       have:¬j=k:=by intro e;subst e;exact hjp hp
       simp[x9,this]
    ·have hp':Nat.beq (k % 2) 1=false:=QB hp
     simp only[hp',cond_false,Tr.get]
     by_cases hj:j=0
     ·subst hj;simp[rac hk]
     ·have hj':Nat.beq j 0=false:=QB hj
      simp only[hj',cond_false]
      by_cases hjp:j % 2=1
      ·have x9:Nat.beq (j % 2) 1=true:=IU hjp
       have:¬j=k:=by intro e;subst e;exact hp hjp
       simp[x9,this]
      ·have x9:Nat.beq (j % 2) 1=false:=QB hjp
       simp only[x9,cond_false];rw[ih _ _ _ _ (by omega)]
       by_cases hjk:j=k
       ·subst hjk;simp
       ·have:¬j / 2 - 1=k / 2 - 1:=by omega
        simp[this,hjk,Tr.get]
  |nd u a b=>
   unfold Tr.xN
   by_cases hk:k=0
   ·subst hk
    simp only[Nat.beq_refl,cond_true,Tr.get]
    by_cases hj:j=0
    ·subst hj;simp
    ·have:Nat.beq j 0=false:=QB hj
     simp[this,hj]
   ·have hk':Nat.beq k 0=false:=QB hk
    simp only[hk',cond_false]
    by_cases hp:k % 2=1
    ·have hp':Nat.beq (k % 2) 1=true:=IU hp
     simp only[hp',cond_true,Tr.get]
     by_cases hj:j=0
     ·subst hj;simp[rac hk]
     ·have hj':Nat.beq j 0=false:=QB hj
      simp only[hj',cond_false]
      by_cases hjp:j % 2=1
      ·have x9:Nat.beq (j % 2) 1=true:=IU hjp
       simp only[x9,cond_true];rw[ih _ _ _ _ (by omega)]
       by_cases hjk:j=k
       ·subst hjk;simp
       ·have:¬j / 2=k / 2:=by omega
        simp[this,hjk]
      ·have x9:Nat.beq (j % 2) 1=false:=QB hjp
       have:¬j=k:=by intro e;subst e;exact hjp hp
       simp[x9,this]
    ·have hp':Nat.beq (k % 2) 1=false:=QB hp
     simp only[hp',cond_false,Tr.get]
     by_cases hj:j=0
     ·subst hj;simp[rac hk]
     ·have hj':Nat.beq j 0=false:=QB hj
      simp only[hj',cond_false]
      by_cases hjp:j % 2=1
      ·have x9:Nat.beq (j % 2) 1=true:=IU hjp
       have:¬j=k:=by intro e;subst e;exact hp hjp
       simp[x9,this]
      ·have x9:Nat.beq (j % 2) 1=false:=QB hjp
       simp only[x9,cond_false];rw[ih _ _ _ _ (by omega)]
       by_cases hjk:j=k
       ·subst hjk;simp
       ·have:¬j / 2 - 1=k / 2 - 1:=by omega
        simp[this,hjk]
theorem Tr.aa(t:Tr)(k:Nat)(v:AV)(j:Nat):(t.set k v).get j=if j=k then v else t.get j:=Tr.wX _ _ _ _ _ (Uad k)
structure St where
 env:Tr
 H:List ba
inductive AO where
 |t (n:Nat)
 |c (p:PV)
 |f (ix:Nat)
def AO.ev(e:Tr):AO->AV
 | .t n=>e.get n
 | .c p=> .pv p
 | .f ix=> .Ol ix []
inductive Zf where
 |lit | uq | own
inductive Kd where
 |one (c:Nat)
 |row (ks:List Nat)
inductive Od where
 |move (x:AO)
 |pick (c a b:AO)
 |alloc (zero:List PV)
 |box (n:Nat) (x:AO)
 |xQ (n:Nat) (x:AO)
 |build (zero:List PV) (parts:List (Nat×Nat×AO))
 |xb (h:Zf) (sz:Nat) (ag:Bool) (len:Nat) (zero:List PV) (parts:List (Nat×AO))
 |load (ag:Bool) (n:Nat) (x:AO)
 |store (n:Nat) (a v:AO)
 |AF (x:AO)
 |bin (op:BinOp) (x y:AO)
 |eq (k:Nat) (neq:Bool) (x y:AO)
 |un (op:UnOp) (x:AO)
 |conv (k:IntKind) (x:AO)
 |y5 (x:AO)
 |J1 (h:Zf) (x:AO)
 |C5 (x:AO)
 |FK (ix:Nat) (caps:List AO)
 |eh (h:Zf) (sz:Nat) (ag:Bool) (zero:List PV) (bytes:Nat) (len cap:AO)
 |slice (sz:Nat) (x:AO) (lo hi:Option AO)
 |LH (off:Nat) (x:AO)
 |x5 (off:Nat) (ag:Bool) (n:Nat) (x:AO)
 |Pd (sz:Nat) (x i:AO)
 |xy (n sz:Nat) (x i:AO)
 |EY (n sz:Nat) (ag:Bool) (x i:AO)
 |B5 (x i:AO)
 |ext (i:Nat) (x:AO)
 |len (k:Nat) (x:AO)
 |mx (xs:List AO)
 |mn (xs:List AO)
 |append (own:Bool) (h:Zf) (sz:Nat) (ag:Bool) (bytes:Nat) (s x:AO)
 |iH
 |Y0 (kd:Kd) (neq:Bool) (x y:AO)
 |lookup (kn:Kd) (zero:PV) (ok:Bool) (m k:AO)
 |ax (kn:Kd) (m k v:AO)
 |Hq (F:List PV->Option PV) (args:List AO)
 |zg (ix:Nat) (args:List AO)
 |iE (f:AO) (args:List AO)
 |pG (ix:Nat) (args:List AO)
structure wb where
 dst:Option Nat
 op:Od
 guard:Option (Nat×Bool)
 pr:Bool
inductive kS where
 |DA (t sz:Nat)
 |zJ (t sz:Nat) (ag:Bool)
 |Ay (t off sz:Nat)
 |XK (t off sz:Nat) (ag:Bool)
 |freeze (t:Nat)
inductive Ja where
 |skip
 |region (ops:List wb)
 |seq (a b:Ja)
 |cond (c:AO) (a b:Ja)
 |block (id:Nat) (b:Ja)
 |scope (b:Ja)
 |loop (live:List Nat) (b:Ja)
 |bp (live:List Nat) (b:Ja)
 |exit (id:Nat)
 |ret
 |ghost (g:kS) (c:Ja)
 |range (ix:Nat) (F:List PV->Option (List (List PV))) (g:AO) (ps:List Nat) (asg:List (Nat×Nat)) (b:Ja)
 |RA (ix:Nat) (F:List PV->Option (List (List PV))) (g:AO) (ps:List Nat) (pre:List wb) (b:Ja)
 |goto (l:Nat)
 |jumps (l:Nat) (a b:Ja)
inductive Ex where
 |norm
 |exit (id:Nat)
 |ret
 |goto (l:Nat)
inductive zE where
 |tmp (t:Nat)
 |cell (t:Nat) (ag:Bool) (n:Nat)
structure Ue where
 np:Nat
 results:List zE
 body:Ja
def Ra{α β:Type}(f:α->Option β):List α->Option (List β)
 | []=>some []
 |a::r=>(f a).bind fun b=>(Ra f r).bind fun bs=>some (b::bs)
def chunk(sz:Nat)(ag:Bool):Nat->List PV->List PV
 |0,_=>[]
 |n+1,cs=>((if ag then (.agg (cs.take sz)) else (cs.headD .qf)))::chunk sz ag n (cs.drop sz)
abbrev Ui(sz len fl n:Nat):Prop:=fl<=len * sz/\len * sz<=n
def Ub(H:List ba):Nat->AV->Option PV
 |_,.pv p=>some p
 |_,.uq _ nl sz es=>some ((if nl then .ga else (.lit sz es)))
 |0,_=>none
 |d+1,.own id len=>
  match H[id]? with
  |some (.seq sz ag cells fl nl)=>
   (if (len * sz=cells.length/\(ag||sz==1)=true) then ((if nl then (some .ga) else ((Ra (Ub H d) cells).map fun ps=> .lit sz (chunk sz ag len ps)))) else none)
  |_=>none
 |d+1,.ptr id off=>
  match H[id]? with
  |some (.box cells)=>(Ra (Ub H d) cells).map fun ps=> .rp ps off
  |_=>none
 |d+1,.agg cs=>(Ra (Ub H d) cs).map .agg
 |d+1,.mc cs=>(Ra (Ub H d) cs).map .mc
 |_,_=>none
def deep:Nat:=6
def AV.free:AV->Bool
 | .pv _=>true
 | .uq _ _ _ _=>true
 |_=>false
mutual
def Nj:PV->Bool
 | .rp _ _=>false
 | .lit _ _=>false
 | .iface _ _=>false
 | .agg cs=>Jp cs
 | .mc cs=>Jp cs
 |_=>true
def Jp:List PV->Bool
 | []=>true
 |c::cs=>Nj c&&Jp cs
end
def asInt:AV->Option (IntKind×Int)
 | .pv (.int k n)=>some (k,n)
 |_=>none
def asBool:AV->Option Bool
 | .pv (.bool b)=>some b
 |_=>none
def UR(n:Int):AV:= .pv (.int .i64 n)
def Im(ag:Bool)(n:Nat)(cs:List PV)(off:Nat):Option PV:=
 (if ag then ((if ((off+n)<=cs.length) then (some (.agg ((cs.drop off).take n))) else none)) else cs[off]?)
def Lh(ag:Bool)(n:Nat)(cs:List AV)(off:Nat):Option AV:=
 (if ag then ((if ((off+n)<=cs.length) then (some (gv ((cs.drop off).take n))) else none)) else cs[off]?)
def fa{α:Type}(cs:List α)(off:Nat):List α->List α
 | []=>cs
 |v::vs=>fa (cs.set off v) (off+1) vs
def pa(H:List ba)(ag:Bool)(n:Nat):AV->Option AV
 | .pv (.rp row off)=>(Im ag n row off).map .pv
 | .ptr id off=>
   match H[id]? with
   |some (.box cells)=>Lh ag n cells off
   |_=>none
 | .Ec id m off=>
   match H[id]? with
   |some (.seq _ _ cells fl _)=>(if (cells.length=m) then (Lh ag n cells off) else (if fl<=m/\0 < m then ((Tc (cells.take m)).bind fun ps=>(Im ag n ps off).map .pv) else none))
   |_=>none
 |_=>none
def Ha(H:List ba)(n:Nat)(p v:AV):Option (List ba):=
 (if (v.cells.length=n/\v.cells.all AV.one) then (match p with
  | .ptr id off=>
    match H[id]? with
    |some (.box cells)=>(if ((off+n)<=cells.length) then (some (H.set id (.box (fa cells off v.cells)))) else none)
    |_=>none
  | .Ec id m off=>
    match H[id]? with
    |some (.seq sz ag cells _ nl)=>(if (cells.length=m/\(off+n)<=m) then (some (H.set id (.seq sz ag (fa cells off v.cells) m nl))) else none)
    |_=>none
  |_=>none) else none)
def Kf(sz:Nat):AV->Option (List PV)
 | .pv .ga=>some []
 | .pv (.lit s ys)=>(if (s=sz) then (some ys) else none)
 | .pv (.str s)=>(if (sz=1) then (some (s.data.toList.map fun b=> .int .u8 b.toNat)) else none)
 | .uq _ _ s ys=>(if (s=sz) then (some ys) else none)
 |_=>none
def pk(H:List ba)(sz:Nat):AV->Option (Nat×List AV)
 | .own id len=>
   match H[id]? with
   |some (.seq s _ cells fl nl)=>(if (s=sz/\len * sz=cells.length) then (some (len,cells)) else none)
   |_=>none
 |v=>(Kf sz v).map fun ys=>(ys.length,(flat ys).map .pv)
abbrev eb(n bytes:Nat):Prop:=n * bytes<=140737488355328
def fresh(H:List ba)(h:Zf)(sz:Nat)(ag:Bool)(n:Nat)(cells:List AV):Option (AV×List ba):=
 match h with
 | .lit=>(Tc cells).map fun ps=>(.pv (.lit sz (chunk sz ag n ps)),H)
 | .uq=>(Tc cells).map fun ps=>(.uq H.length false sz (chunk sz ag n ps),H++[.tok sz n false])
 | .own=>some (.own H.length n,H++[.seq sz ag cells 0 false])
def Oq(H:List ba)(h:Zf)(sz:Nat):List PV->Option (AV×List ba)
 | []=>some (.pv .ga,H)
 |y::ys=>match h with
  | .lit=>some (.pv (.lit sz (y::ys)),H)
  | .uq=>some (.uq H.length false sz (y::ys),H++[.tok sz (ys.length+1) false])
  | .own=>none
def Cb(H:List ba)(own:Bool)(h:Zf)(sz:Nat)(ag:Bool)(bytes:Nat)(s x:AV):Option (AV×List ba):=
 (if own then (match s with
  | .own id len=>
    match H[id]? with
    |some (.seq sz' ag' cells fl nl)=>
     (pk H sz x).bind fun r=>
      (if (sz=sz'/\(len * sz)=cells.length/\eb (len+r.1) bytes/\r.2.all AV.one) then (some (.own id (len+r.1),H.set id (.seq sz ag' (cells++r.2) fl (nl&&(r.1==0))))) else none)
    |_=>none
  |_=>none) else (match s with
  | .uq id nl sz' es=>
    match H[id]? with
    |some (.tok sz'' n _)=>
     (Kf sz x).bind fun ys=>
      (if (sz=sz'/\sz=sz''/\n=es.length/\eb (es.length+ys.length) bytes) then (some (.uq id (nl&&ys.isEmpty) sz (es++ys),H.set id (.tok sz (es.length+ys.length) (nl&&ys.isEmpty)))) else none)
    |_=>none
  | .pv .ga=>
    (Kf sz x).bind fun ys=>
     (if (eb ys.length bytes) then Oq H h sz ys else none)
  |_=>none))
def place(H:List ba)(d:Nat):AV->Option AV
 | .pv (.rp row o)=>some (.pv (.rp row (o+d)))
 | .ptr id o=>
   match H[id]? with
   |some (.box _)=>some (.ptr id (o+d))
   |_=>none
 | .Ec id n o=>
   match H[id]? with
   |some (.seq _ _ cells fl _)=>(if cells.length=n then (some (.Ec id n (o+d))) else (if fl<=n/\0 < n then ((Tc (cells.take n)).map fun _=> .Ec id n (o+d)) else none))
   |_=>none
 |_=>none
abbrev Ia(i:Int)(n:Nat):Prop:=0<=i/\i < (n:Int)
def ta(H:List ba)(sz:Nat)(x:AV)(i:Int):Option AV:=
 match x with
 | .pv (.lit s es)=>(if (s=sz/\Ia i es.length) then (es[i.toNat]?.map fun e=> .pv (.rp e.cells 0)) else none)
 | .uq _ _ s es=>(if (s=sz/\Ia i es.length) then (es[i.toNat]?.map fun e=> .pv (.rp e.cells 0)) else none)
 | .own id len=>
   match H[id]? with
   |some (.seq s _ cells fl _)=>
    (if (s=sz/\Ia i len/\Ui sz len fl cells.length) then (some (.Ec id (len * sz) (i.toNat * sz))) else none)
   |_=>none
 |_=>none
def Tb(H:List ba):Nat->AV->Option Nat
 |0,.pv .ga=>some 0
 |0,.pv (.lit _ es)=>some es.length
 |1,.pv (.str s)=>some s.size
 |0,.uq _ _ _ es=>some es.length
 |0,.own id len=>
  match H[id]? with
  |some (.seq sz _ cells fl _)=>(if (Ui sz len fl cells.length) then (some len) else none)
  |_=>none
 |2,.pv .nw=>some 0
 |2,.mp id=>
  match H[id]? with
  |some (.map es)=>some es.length
  |_=>none
 |_,_=>none
def ug(H:List ba)(sz:Nat)(x:AV)(lo:Option Int)(hi:Option Int):Option AV:=
 match x with
 | .pv .ga=>(if (0 < sz/\lo.getD 0=0/\hi.getD 0=0) then (some (.pv .ga)) else none)
 | .pv (.lit s es)=>
   let l:=lo.getD 0
   let h:=hi.getD es.length
   (if (0 < sz/\s=sz/\0<=l/\l<=h/\h<=(es.length:Int)) then (some (.pv (.lit sz ((es.take h.toNat).drop l.toNat)))) else none)
 | .uq _ nl s es=>
   let l:=lo.getD 0
   let h:=hi.getD es.length
   (if (0 < sz/\s=sz/\0<=l/\l<=h/\h<=(es.length:Int)) then (some (.pv ((if nl then .ga else (.lit sz ((es.take h.toNat).drop l.toNat)))))) else none)
 | .pv (.str s)=>
   let l:=lo.getD 0
   let h:=hi.getD s.size
   (if (sz=0/\0<=l/\l<=h/\h<=(s.size:Int)) then (some (.pv (.str (s.extract l.toNat h.toNat)))) else none)
 |_=>none
def Us:Nat->PV->PV->Option Bool
 |0,.bool a,.bool b=>some (a==b)
 |1,.int k a,.int k' b=>if k=k' then some (a==b) else none
 |2,.str a,.str b=>some (a==b)
 |_,_,_=>none
def cj:List Nat->List PV->List PV->Option Bool
 | [],[],[]=>some true
 |k::ks,x::xs,y::ys=>(Us k x y).bind fun b=>(cj ks xs ys).map fun c=>b&&c
 |_,_,_=>none
def Ql:Kd->PV->PV->Option Bool
 | .one c,x,y=>Us c x y
 | .row ks,.agg xs,.agg ys=>cj ks xs ys
 |_,_,_=>none
def qn(kd:Kd)(k:PV):List (PV×PV)->Nat->Option (Option (Nat×PV))
 | [],_=>some none
 |e::r,i=>(Ql kd k e.1).bind fun b=>(if b then (some (some (i,e.2))) else (qn kd k r (i+1)))
def Kq(H:List ba)(k:Nat)(x y:AV):Option Bool:=
 match k,x,y with
 |0,.pv (.bool a),.pv (.bool b)=>some (a==b)
 |1,.pv .qf,.pv .qf=>some true
 |1,.pv (.rp _ _),.pv .qf=>some false
 |1,.pv .qf,.pv (.rp _ _)=>some false
 |1,.ptr id _,.pv .qf=>
  match H[id]? with
  |some (.box _)=>some false
  |_=>none
 |2,.pv .ga,.pv .ga=>some true
 |2,.pv (.lit _ _),.pv .ga=>some false
 |2,.uq _ nl _ _,.pv .ga=>some nl
 |2,.own id len,.pv .ga=>
  match H[id]? with
  |some (.seq sz _ cells _ nl)=>(if (len * sz=cells.length) then (some nl) else none)
  |_=>none
 |3,.Ol _ _,.pv .Pw=>some false
 |3,.pv .Pw,.pv .Pw=>some true
 |_,_,_=>none
def vl(op:BinOp)(k:IntKind)(x y:Int):Option PV:=
 match op with
 | .add=>some (.int k (k.wrap (x+y)))
 | .sub=>some (.int k (k.wrap (x - y)))
 | .mul=>some (.int k (k.wrap (x * y)))
 | .quo=>(if (y=0) then none else (some (.int k (k.wrap (x.tdiv y)))))
 | .rem=>(if (y=0) then none else (some (.int k (x.tmod y))))
 | .and=>some (.int k (k.wrap ((BitVec.ofInt k.bits x &&& BitVec.ofInt k.bits y).toNat)))
 | .or=>some (.int k (k.wrap ((BitVec.ofInt k.bits x ||| BitVec.ofInt k.bits y).toNat)))
 | .xor=>some (.int k (k.wrap ((BitVec.ofInt k.bits x ^^^ BitVec.ofInt k.bits y).toNat)))
 | .eql=>some (.bool (x==y))
 | .neq=>some (.bool (x != y))
 | .lss=>some (.bool (decide (x < y)))
 | .leq=>some (.bool (decide (x<=y)))
 | .gtr=>some (.bool (decide (x > y)))
 | .geq=>some (.bool (decide (x>=y)))
 |_=>none
def OO(op:BinOp)(x y:ByteArray):Option PV:=
 match op with
 | .add=>(if (((x.size+y.size:Nat):Int)<=IntKind.i64.max) then (some (.str (x++y))) else none)
 | .eql=>some (.bool (x.data.toList==y.data.toList))
 | .neq=>some (.bool (!(x.data.toList==y.data.toList)))
 | .lss=>some (.bool (Op.bytesLess x.data.toList y.data.toList))
 | .geq=>some (.bool (!(Op.bytesLess x.data.toList y.data.toList)))
 |_=>none
def xM(op:BinOp)(x y:AV):Option PV:=
 match op,x,y with
 | .shl,.pv (.int k a),.pv (.int _ b)=>(if (b < 0) then none else (some (.int k (k.wrap (a * 2 ^ (min b.toNat k.bits))))))
 | .shr,.pv (.int k a),.pv (.int _ b)=>(if (b < 0) then none else (some (.int k (a.fdiv (2 ^ (min b.toNat k.bits))))))
 |op,.pv (.int k a),.pv (.int k' b)=>if k=k' then vl op k a b else none
 |op,.pv (.str a),.pv (.str b)=>OO op a b
 |_,_,_=>none
def D3(op:UnOp)(x:AV):Option PV:=
 match op,x with
 | .neg,.pv (.int k n)=>some (.int k (k.wrap (0 - n)))
 | .not,.pv (.bool b)=>some (.bool !b)
 | .xor,.pv (.int k n)=>some (.int k (k.wrap ((BitVec.ofInt k.bits (if k.signed then -1 else k.max) ^^^ BitVec.ofInt k.bits n).toNat)))
 |_,_=>none
def bytesOf:List PV->Option (List UInt8)
 | []=>some []
 | .int .u8 n::r=>(bytesOf r).map (UInt8.ofNat n.toNat:: ·)
 |_=>none
def TH(H:List ba)(x:AV):Option ByteArray:=
 match x with
 | .pv .ga=>some ByteArray.empty
 | .pv (.lit 1 es)=>(bytesOf es).map fun l=>⟨l.toArray⟩
 | .uq _ _ 1 es=>(bytesOf es).map fun l=>⟨l.toArray⟩
 | .own id len=>
   match H[id]? with
   |some (.seq sz _ cells _ nl)=>
    (if sz=1/\len * sz=cells.length then (if nl then some ByteArray.empty else ((Tc cells).bind bytesOf).map fun l=>⟨l.toArray⟩) else none)
   |_=>none
 |_=>none
def Ye(mx:Bool):IntKind->Int->List AV->Option PV
 |k,x,[]=>some (.int k x)
 |k,x,.pv (.int _ y)::r=>Ye mx k ((if mx then (if y > x then y else x) else (if y < x then y else x))) r
 |_,_,_=>none
def cp(mx:Bool):List AV->Option PV
 | .pv (.int k x)::r=>Ye mx k x r
 |_=>none
def Yr(cs:List AV):List (Nat×Nat×AV)->Option (List AV)
 | []=>some cs
 | (off,sz,v)::r=>(if (v.cells.length=sz/\off+sz<=cs.length/\v.cells.all AV.one) then (Yr (fa cs off v.cells) r) else none)
def Ml(zero:List PV):Nat->List AV
 |0=>[]
 |n+1=>zero.map .pv++Ml zero n
def AV.Tq:AV->AV
 | .uq _ nl sz es=> .pv (if nl then .ga else (.lit sz es))
 |v=>v
def AV.WE:AV->AV
 | .agg cs=>gv (cs.map AV.Tq)
 |v=>v.Tq
def jj(e:Tr)(x:AO):AV:=(x.ev e).WE
mutual
def PV.same:PV->PV->Bool
 | .int k n,.int k' n'=>decide (k=k')&&decide (n=n')
 | .bool a,.bool b=>a==b
 | .str a,.str b=>decide (a=b)
 | .qf,.qf=>true
 | .ga,.ga=>true
 | .nw,.nw=>true
 | .Pw,.Pw=>true
 | .PB,.PB=>true
 | .rp r o,.rp r' o'=>xx r r'&&decide (o=o')
 | .lit s e,.lit s' e'=>decide (s=s')&&xx e e'
 | .agg a,.agg b=>xx a b
 | .mc a,.mc b=>xx a b
 | .iface t v,.iface t' v'=>decide (t=t')&&PV.same v v'
 |_,_=>false
def xx:List PV->List PV->Bool
 | [],[]=>true
 |a::r,b::r'=>PV.same a b&&xx r r'
 |_,_=>false
end
mutual
def AV.same:AV->AV->Bool
 | .pv p,.pv q=>p.same q
 | .ptr a b,.ptr a' b'=>decide ((a,b)=(a',b'))
 | .Ec a b c,.Ec a' b' c'=>decide ((a,b,c)=(a',b',c'))
 | .uq a n s e,.uq a' n' s' e'=>decide ((a,n,s)=(a',n',s'))&&xx e e'
 | .own a b,.own a' b'=>decide ((a,b)=(a',b'))
 | .Ol a l,.Ol a' l'=>decide (a=a')&&oA l l'
 | .mp a,.mp b=>decide (a=b)
 | .agg a,.agg b=>oA a b
 | .mc a,.mc b=>oA a b
 | .undef,.undef=>true
 |_,_=>false
def oA:List AV->List AV->Bool
 | [],[]=>true
 |a::r,b::r'=>AV.same a b&&oA r r'
 |_,_=>false
end
def ba.same:ba->ba->Bool
 | .tok _ _ _,_=>true
 | .box a,.box b=>oA a b
 | .seq s g a f n,.seq s' g' a' f' n'=>decide ((s,g,f,n)=(s',g',f',n'))&&oA a a'
 | .map a,.map b=>xx (a.map (·.1)) (b.map (·.1))&&xx (a.map (·.2)) (b.map (·.2))
 | .dead,.dead=>true
 |_,_=>false
def pF:List ba->List ba->Bool
 | [],_=>true
 |o::r,o'::r'=>o.same o'&&pF r r'
 |_,_=>false
abbrev Sa:=Nat->List AV->List ba->Option (AV×List ba)
def xa(call:Sa)(e:Tr)(H:List ba):Od->Option (AV×List ba)
 | .move x=>some (x.ev e,H)
 | .pick c a b=>(asBool (c.ev e)).bind fun t=>some ((if t then (a.ev e) else (b.ev e)),H)
 | .alloc zero=>some (.ptr H.length 0,H++[.box (zero.map .pv)])
 | .box n x=>(if ((x.ev e).cells.length=n/\(x.ev e).cells.all AV.one) then (some (.ptr H.length 0,H++[.box (x.ev e).cells])) else none)
 | .xQ n x=>(if ((x.ev e).cells.length=n/\(x.ev e).cells.all AV.one) then ((Ra (Ub [] 0) (x.ev e).cells).map fun ps=>(.pv (.rp ps 0),H)) else none)
 | .build zero parts=>(Yr (zero.map .pv) (parts.map fun p=>(p.1,p.2.1,p.2.2.ev e))).map fun cs=>(gv cs,H)
 | .xb h sz ag len zero parts=>
   (Yr (Ml zero len) (parts.map fun p=>(p.1 * sz,sz,jj e p.2))).bind fun cs=>
    (if (cs.all AV.one) then (fresh H h sz ag len cs) else none)
 | .load ag n x=>(pa H ag n (x.ev e)).map fun v=>(v,H)
 | .store n a v=>(Ha H n (a.ev e) (v.ev e)).map fun H'=>(.pv (.mc []),H')
 | .AF x=>
   match x.ev e with
   | .Ol ix caps=>some (.Ol ix caps,H)
   |v=>(place H 0 v).map fun v=>(v,H)
 | .bin op x y=>(xM op (x.ev e) (y.ev e)).map fun p=>(.pv p,H)
 | .eq k neq x y=>(Kq H k (x.ev e) (y.ev e)).map fun b=>(.pv (.bool ((if neq then (!b) else b))),H)
 | .un op x=>(D3 op (x.ev e)).map fun p=>(.pv p,H)
 | .conv k x=>(asInt (x.ev e)).map fun n=>(.pv (.int k (k.wrap n.2)),H)
 | .y5 x=>(TH H (x.ev e)).map fun s=>(.pv (.str s),H)
 | .J1 h x=>
   match x.ev e with
   | .pv (.str s)=>fresh H h 1 false s.size (s.data.toList.map fun b=> .pv (.int .u8 b.toNat))
   |_=>none
 | .C5 x=>
   match x.ev e with
   | .uq id false 1 es=>
     match H[id]? with
     |some (.tok 1 n false)=>(if (n=es.length) then (some (.pv (.lit 1 es),H.set id .dead)) else none)
     |_=>none
   |_=>none
 | .FK ix caps=>some (.Ol ix (caps.map (·.ev e)),H)
 | .eh h sz ag zero bytes len cap=>
   (asInt (len.ev e)).bind fun l=>(asInt (cap.ev e)).bind fun c=>
    (if (0<=l.2/\l.2<=c.2/\eb c.2.toNat bytes) then (fresh H h sz ag l.2.toNat (Ml zero l.2.toNat)) else none)
 | .slice sz x lo hi=>
   match lo,hi with
   |none,none=>(ug H sz (x.ev e) none none).map fun v=>(v,H)
   |some l,none=>(asInt (l.ev e)).bind fun l=>(ug H sz (x.ev e) (some l.2) none).map fun v=>(v,H)
   |none,some h=>(asInt (h.ev e)).bind fun h=>(ug H sz (x.ev e) none (some h.2)).map fun v=>(v,H)
   |some l,some h=>(asInt (l.ev e)).bind fun l=>(asInt (h.ev e)).bind fun h=>(ug H sz (x.ev e) (some l.2) (some h.2)).map fun v=>(v,H)
 | .LH off x=>(place H off (x.ev e)).map fun v=>(v,H)
 | .x5 off ag n x=>
   match x.ev e with
   | .pv (.agg cs)=>(Im ag n cs off).map fun p=>(.pv p,H)
   | .agg cs=>(Lh ag n cs off).map fun p=>(p,H)
   |_=>none
 | .Pd sz x i=>(asInt (i.ev e)).bind fun i=>(ta H sz (x.ev e) i.2).map fun v=>(v,H)
 | .xy n sz x i=>
   (asInt (i.ev e)).bind fun i=>(if Ia i.2 n then ((place H (i.2.toNat * sz) (x.ev e)).map fun v=>(v,H)) else none)
 | .EY n sz ag x i=>
   (asInt (i.ev e)).bind fun i=>(if (Ia i.2 n) then (match x.ev e with
    | .pv (.agg cs)=>(Im ag sz cs (i.2.toNat * sz)).map fun p=>(.pv p,H)
    | .agg cs=>(Lh ag sz cs (i.2.toNat * sz)).map fun p=>(p,H)
    |_=>none) else none)
 | .B5 x i=>
   (asInt (i.ev e)).bind fun i=>
    match x.ev e with
    | .pv (.str s)=>(if (0<=i.2) then (s.data.toList[i.2.toNat]?.map fun b=>(.pv (.int .u8 b.toNat),H)) else none)
    |_=>none
 | .ext i x=>
   match x.ev e with
   | .pv (.mc vs)=>vs[i]?.map fun p=>(.pv p,H)
   | .mc vs=>vs[i]?.map fun p=>(p,H)
   |_=>none
 | .len k x=>(Tb H k (x.ev e)).map fun (n:Nat)=>(UR (n:Int),H)
 | .mx xs=>(cp true (xs.map (·.ev e))).map fun p=>(.pv p,H)
 | .mn xs=>(cp false (xs.map (·.ev e))).map fun p=>(.pv p,H)
 | .append own h sz ag bytes s x=>Cb H own h sz ag bytes (s.ev e) (x.ev e)
 | .Y0 kd neq x y=>
   match x.ev e,y.ev e with
   | .pv p,.pv q=>(Ql kd p q).map fun b=>(.pv (.bool ((if neq then (!b) else b))),H)
   |_,_=>none
 | .iH=>some (.mp H.length,H++[.map []])
 | .lookup kn zero ok m k=>
   match m.ev e,k.ev e with
   | .pv .nw,.pv k=>(if ((Ql kn k k).isSome) then (some ((if ok then (.pv (.mc [zero,.bool false])) else (.pv zero)),H)) else none)
   | .mp id,.pv k=>
     match H[id]? with
     |some (.map es)=>(if ((Ql kn k k).isSome) then ((qn kn k es 0).map fun r=>
       match r with
       |some (_,v)=>((if ok then (.pv (.mc [v,.bool true])) else (.pv v)),H)
       |none=>((if ok then (.pv (.mc [zero,.bool false])) else (.pv zero)),H)) else none)
     |_=>none
   |_,_=>none
 | .ax kn m k v=>
   match m.ev e,k.ev e,v.ev e with
   | .mp id,.pv k,.pv v=>
     match H[id]? with
     |some (.map es)=>(if ((Ql kn k k).isSome) then ((qn kn k es 0).map fun r=>
       match r with
       |some (i,_)=>(.pv (.mc []),H.set id (.map (es.set i (k,v))))
       |none=>(.pv (.mc []),H.set id (.map (es++[(k,v)])))) else none)
     |_=>none
   |_,_,_=>none
 | .Hq F args=>(Ra (Ub H deep) (args.map (·.ev e))).bind fun ps=>(F ps).bind fun r=>(if (((args.map (·.ev e)).all AV.free||Nj r)=true) then (some (.pv r,H)) else none)
 | .zg ix args=>call ix (args.map (·.ev e)) H
 | .iE f args=>
   match f.ev e with
   | .Ol ix caps=>call ix (args.map (·.ev e)++caps) H
   |_=>none
 | .pG ix args=>(call ix (args.map (·.ev e)) H).bind fun r=>(if pF H r.2=true then some r else none)
def ch(e:Tr):Option (Nat×Bool)->Option Bool
 |none=>some true
 |some (t,want)=>
  match e.get t with
  | .pv (.bool b)=>some (b==want)
  | .pv (.mc [])=>some false
  |_=>none
def Qq(e:Tr)(d:Option Nat)(v:AV):Tr:=
 match d with
 |some d=>e.set d v
 |none=>e
def GD(d:Option Nat)(e:Tr):Option (AV×List ba)->Option St
 |some (v,H)=>some ⟨Qq e d v,H⟩
 |none=>none
def u2(H:List ba):Option (AV×List ba)->Option (AV×List ba)
 |some (v,[])=>some (v,H)
 |_=>none
def Ik(call:Sa)(e:Tr)(H:List ba)(o:wb):Option (AV×List ba):=cond o.pr (u2 H (xa call e [] o.op)) (xa call e H o.op)
def HQ(call:Sa)(o:wb)(s:St):Option St:=GD o.dst s.env (Ik call s.env s.H o)
def KA(o:wb)(s:St):Option St:=some ⟨Qq s.env o.dst (.pv (.mc [])),s.H⟩
def bo(f g:St->Option St)(s:St):Option Bool->Option St
 |some true=>f s
 |some false=>g s
 |none=>none
def me(call:Sa)(o:wb)(s:St):Option St:=bo (HQ call o) (KA o) s (ch s.env o.guard)
def Lt(f:St->Option St):Option St->Option St
 |some s=>f s
 |none=>none
def Nf(call:Sa):List wb->St->Option St
 | [],s=>some s
 |o::r,s=>Lt (Nf call r) (me call o s)
def AV.cut(n:Nat):Nat->AV->Option AV
 |_,.pv p=>some (.pv p)
 |_,.ptr id off=>(if (id < n) then (some (.ptr id off)) else none)
 |_,.Ec id m off=>(if (id < n) then (some (.Ec id m off)) else none)
 |_,.uq id nl sz es=>(if (id < n) then (some (.uq id nl sz es)) else (some (.pv ((if nl then .ga else (.lit sz es))))))
 |_,.own id len=>(if (id < n) then (some (.own id len)) else none)
 |_,.mp id=>(if (id < n) then (some (.mp id)) else none)
 |_,.undef=>some .undef
 |0,_=>none
 |d+1,.Ol ix caps=>(Ra (AV.cut n d) caps).map (.Ol ix)
 |d+1,.agg cs=>(Ra (AV.cut n d) cs).map .agg
 |d+1,.mc cs=>(Ra (AV.cut n d) cs).map .mc
def Ca(n:Nat)(e:Tr):List Nat->Option Tr
 | []=>some .lf
 |t::r=>((e.get t).cut n deep).bind fun v=>(Ca n e r).map fun e'=>e'.set t v
def AV.ie(n:Nat):Nat->AV->Bool
 |_,.pv _=>true
 |_,.ptr id _=>decide (id < n)
 |_,.Ec id _ _=>decide (id < n)
 |_,.uq id _ _ _=>decide (id < n)
 |_,.own id _=>decide (id < n)
 |_,.mp id=>decide (id < n)
 |_,.undef=>true
 |0,_=>false
 |d+1,.Ol _ caps=>caps.all (AV.ie n d)
 |d+1,.agg cs=>cs.all (AV.ie n d)
 |d+1,.mc cs=>cs.all (AV.ie n d)
def qa(n:Nat):ba->Option ba
 | .box cells=>(Ra (AV.cut n deep) cells).map .box
 | .seq sz ag cells fl nl=>(if (cells.all (AV.ie n deep)=true) then (some (.seq sz ag cells fl nl)) else none)
 | .tok sz m nl=>some (.tok sz m nl)
 | .map es=>some (.map es)
 | .dead=>some .dead
def na(n:Nat)(live:List Nat)(s:St):Option St:=
 (Ca n s.env live).bind fun e=>(Ra (qa n) (s.H.take n)).map fun H=>⟨e,H⟩
def Hc(e:Tr):List Nat->Tr
 | []=> .lf
 |t::r=>(Hc e r).set t (e.get t)
def tidy(live:List Nat)(s:St):St:=⟨Hc s.env live,s.H⟩
def fe(g:kS)(s:St):Option St:=
 match g with
 | .DA t sz=>
   match s.env.get t with
   | .pv .ga=>(if 0 < sz then (some ⟨s.env.set t (.uq s.H.length true sz []),s.H++[.tok sz 0 true]⟩) else none)
   |_=>none
 | .zJ t sz ag=>
   match s.env.get t with
   | .pv .ga=>(if 0 < sz then (some ⟨s.env.set t (.own s.H.length 0),s.H++[.seq sz ag [] 0 true]⟩) else none)
   |_=>none
 | .Ay t off sz=>
   match s.env.get t with
   | .ptr id o=>
     match s.H[id]? with
     |some (.box cells)=>
      match cells[o+off]? with
      |some (.pv .ga)=>(if 0 < sz then (some ⟨s.env,s.H.set id (.box (cells.set (o+off) (.uq s.H.length true sz [])))++[.tok sz 0 true]⟩) else none)
      |_=>none
     |_=>none
   |_=>none
 | .XK t off sz ag=>
   match s.env.get t with
   | .ptr id o=>
     match s.H[id]? with
     |some (.box cells)=>
      match cells[o+off]? with
      |some (.pv .ga)=>(if 0 < sz then (some ⟨s.env,s.H.set id (.box (cells.set (o+off) (.own s.H.length 0)))++[.seq sz ag [] 0 true]⟩) else none)
      |_=>none
     |_=>none
   |_=>none
 | .freeze t=>
   match s.env.get t with
   | .own id len=>
     match s.H[id]? with
     |some (.seq sz ag cells _ nl)=>
      (if (len * sz=cells.length/\(ag||sz==1)=true) then ((if nl then (some ⟨s.env.set t (.pv .ga),s.H.set id .dead⟩) else ((Tc cells).map fun ps=>⟨s.env.set t (.pv (.lit sz (chunk sz ag len ps))),s.H.set id .dead⟩))) else none)
     |_=>none
   | .ptr id o=>
     match s.H[id]? with
     |some (.box cells)=>(Tc cells).map fun ps=>⟨s.env.set t (.pv (.rp ps o)),s.H.set id .dead⟩
     |_=>none
   |_=>none
def ua:Nat:=18446744073709551616
def Tz(f:St->Option (Ex×St)):Option (Ex×St)->Option (Ex×St)
 |some (.norm,s)=>f s
 |r=>r
def pn:Option St->Option (Ex×St)
 |some s=>some (.norm,s)
 |none=>none
def yx(f g:St->Option (Ex×St))(s:St):Option Bool->Option (Ex×St)
 |some true=>f s
 |some false=>g s
 |none=>none
def Vm(id:Nat):Option (Ex×St)->Option (Ex×St)
 |some (.exit id',s)=>if id'=id then some (.norm,s) else some (.exit id',s)
 |r=>r
def ma(f:St->Option (Ex×St))(cl:St->Option St)(s:St):Option (Ex×St):=Tz (fun s=>pn (cl s)) (f s)
def ab(g:St->Option (Ex×St)):Nat->St->Option (Ex×St)
 |0,_=>none
 |n+1,s=>Tz (ab g n) (g s)
def Fp(f:St->Option (Ex×St)):Option St->Option (Ex×St)
 |some s=>f s
 |none=>none
def iG:Option (Ex×St)->Option (Ex×St)
 |some (.goto _,_)=>none
 |r=>r
def yv(l:Nat)(f:St->Option (Ex×St)):Option (Ex×St)->Option (Ex×St)
 |some (.goto l',s)=>if l'=l then iG (f s) else none
 |r=>r
def xq:List Nat->List PV->Tr->Tr
 |p::ps,x::xs,e=>xq ps xs (e.set p (.pv x))
 |_,_,e=>e
def jD:List (Nat×Nat)->Tr->Tr
 | [],e=>e
 | (d,t)::r,e=>jD r (e.set d (e.get t))
def mX(n:Nat)(x:List PV):Bool:=x.length==n&&Jp x
def Xr(go:List ba->Option (Ex×List ba)):Option (Ex×St)->Option (Ex×List ba)
 |some (.norm,s)=>go s.H
 |some (.goto _,_)=>none
 |some (ex,s)=>some (ex,s.H)
 |none=>none
def Lj(f:List PV->List ba->Option (Ex×St)):List (List PV)->List ba->Option (Ex×List ba)
 | [],H=>some (.norm,H)
 |x::xs,H=>Xr (Lj f xs) (f x H)
def My(ix:Nat)(F:List PV->Option (List (List PV)))(n:Nat):AV->Option (List (List PV))
 | .Ol i caps=>if i=ix then (Tc caps).bind fun cs=>(F cs).bind fun xs=>if xs.all (mX n) then some xs else none else none
 |_=>none
def iU(e:Tr):Option (Ex×List ba)->Option (Ex×St)
 |some (ex,H)=>some (ex,⟨e,H⟩)
 |none=>none
def yy(f:Tr->List ba->Option (Ex×St))(ps:List Nat)(asg:List (Nat×Nat))(s:St):Option (List (List PV))->Option (Ex×St)
 |some xs=>iU s.env (Lj (fun x H=>f (jD asg (xq ps x s.env)) H) xs s.H)
 |none=>none
def oa(call:Sa):Ja->St->Option (Ex×St)
 | .skip,s=>some (.norm,s)
 | .region ops,s=>pn (Nf call ops s)
 | .seq a b,s=>Tz (oa call b) (oa call a s)
 | .cond c a b,s=>yx (oa call a) (oa call b) s (asBool (c.ev s.env))
 | .block id b,s=>Vm id (oa call b s)
 | .scope b,s=>oa call b s
 | .loop live b,s=>Fp (ab (ma (oa call b) (na s.H.length live)) ua) (na s.H.length live s)
 | .bp live b,s=>ab (ma (oa call b) (fun s=>some (tidy live s))) ua (tidy live s)
 | .exit id,s=>some (.exit id,s)
 | .ret,s=>some (.ret,s)
 | .ghost g c,s=>Fp (oa call c) (fe g s)
 | .range ix F g ps asg b,s=>yy (fun e H=>oa call b ⟨e,H⟩) ps asg s (My ix F ps.length (g.ev s.env))
 | .RA ix F g ps pre b,s=>yy (fun e H=>Fp (oa call b) (Nf call pre ⟨e,H⟩)) ps [] s (My ix F ps.length (g.ev s.env))
 | .goto l,s=>some (.goto l,s)
 | .jumps l a b,s=>yv l (oa call b) (oa call a s)
def Ts:Nat->List AV->Tr
 |_,[]=> .lf
 |i,v::r=>(Ts (i+1) r).set i v
def ME(s:St):zE->Option AV
 | .tmp t=>some (s.env.get t)
 | .cell t ag n=>pa s.H ag n (s.env.get t)
def UF:List AV->AV
 | [v]=>v
 |vs=>qy vs
def cP(f:Ue)(s:St):Option AV:=(Ra (ME s) f.results).map UF
def IP(f:Ue):Option (Ex×St)->Option (AV×List ba)
 |some (.exit _,_)=>none
 |some (.goto _,_)=>none
 |some (_,s)=>(cP f s).map fun v=>(v,s.H)
 |none=>none
def ef(call:Sa)(f:Ue)(args:List AV)(H:List ba):Option (AV×List ba):=
 if args.length=f.np then IP f (oa call f.body ⟨Ts 0 args,H⟩) else none
def Da(L:Nat->Option Ue):Nat->Sa
 |0=>fun _ _ _=>none
 |d+1=>fun ix args H=>(L ix).bind fun f=>ef (Da L d) f args H
def Pb(L:Nat->Option Ue)(f:Ue)(args:List PV):Option PV:=
 (ef (Da L 8) f (args.map .pv) []).bind fun r=>Ub r.2 deep r.1
open Go.RowKit
abbrev Rd:=Nat->Nat->Option Value
structure wg where
 n:Nat
 R:Rd
 S:Nat->Prop:=fun _=>False
instance:Coe wg Nat:=⟨wg.n⟩
def spare:Obj->Bool
 | .cells .. =>false
 | .map .. =>false
 |_=>true
structure oh(B0:wg)(w w':World):Prop extends RowKit.Below B0.n w w' where
 ie:∀ (k:Nat)(o:Obj),w.heap[k]? =some o->spare o=true->w'.heap[k]? =some o
 held:∀ (k:Nat),B0.S k->w'.heap[k]? =w.heap[k]?
theorem oh.refl(B0:wg)(w:World):oh B0 w w:=⟨.refl _ _,fun _ _ h _=>h,fun _ _=>rfl⟩
theorem oh.trans{B0:wg}{a b c:World}(h:oh B0 a b)(k:oh B0 b c):oh B0 a c:=⟨h.toBelow.trans k.toBelow,fun i o h1 h2=>k.ie i o (h.ie i o h1 h2) h2,fun i hi=>(k.held i hi).trans (h.held i hi)⟩
theorem Mm{w:World}{k:Nat}{o:Obj}(h:w.heap[k]? =some o):k < w.heap.size:=(Uac.1 h).1
theorem oh.iy{B0:wg}{w w':World}(h:RowKit.Below w.heap.size w w')(hb:B0.n<=w.heap.size)(hs:∀ k,B0.S k->k < w.heap.size):oh B0 w w':=
 ⟨h.mono hb,fun k o h1 _=>by rw[h.block k (Mm h1)];exact h1,fun k hk=>h.block k (hs k hk)⟩
theorem oh.oL{B0:wg}{w w':World}{b:Nat}{ob:Obj}(h0:w.heap[b]? =some ob)(hob:spare ob=false)(h1:w'.os=w.os)(h2:w'.tape=w.tape)(h3:w'.output=w.output)(h4:w.heap.size<=w'.heap.size)(hb:B0.n<=b)(hs:∀ k,B0.S k->k < w.heap.size)(hf:¬B0.S b)
 (h:∀ k,k < w.heap.size->k≠b->w'.heap[k]? =w.heap[k]?):oh B0 w w':=
 ⟨⟨h1,h2,h3,h4,fun k hk=>h k (by have:=Mm h0;omega) (by omega)⟩,fun k o h5 h6=>by
  rw[h k (Mm h5) (fun e=>by subst e;rw[h0] at h5;cases h5;rw[hob] at h6;cases h6)];exact h5,
  fun k hk=>h k (hs k hk) (fun e=>hf (e ▸ hk))⟩
mutual
inductive Ta(R:Rd):PV->Value->Prop
 |int (k:IntKind) (n:Int):Ta R (.int k n) (.int k n)
 |bool (b:Bool):Ta R (.bool b) (.bool b)
 |str (s:ByteArray):Ta R (.str s) (.string s)
 |qf:Ta R .qf (.pointer none)
 |ga:Ta R .ga (.slice none 0 0)
 |nw:Ta R .nw (.map none)
 |Pw:Ta R .Pw .nilFunc
 |PB:Ta R .PB .nilIface
 |rp (row:List PV) (off b o:Nat):Rg R row b o->Ta R (.rp row off) (.pointer (some ⟨b,o+off,none⟩))
 |lit (sz:Nat) (es:List PV) (b o cap:Nat):es.length<=cap->(∀ e∈es,e.cells.length=sz)->Rg R (flat es) b o->Ta R (.lit sz es) (.slice (some ⟨b,o,none⟩) es.length cap)
 |IE (sz:Nat) (a:Addr):Ta R (.lit sz []) (.slice (some a) 0 0)
 |agg (cs:List PV) (vs:List Value):Ve R cs vs->Ta R (.agg cs) (.agg ⟨vs⟩)
 |mc (cs:List PV) (vs:List Value):Ve R cs vs->Ta R (.mc cs) (.tuple ⟨vs⟩)
 |iface (t:TypeId) (p:PV) (v:Value):Ta R p v->Ta R (.iface t p) (.iface t v)
inductive Rg(R:Rd):List PV->Nat->Nat->Prop
 |nil (b o:Nat):Rg R [] b o
 |cons (c:PV) (cs:List PV) (b o:Nat) (v:Value):R b o=some v->v.oneCell'=true->Ta R c v->Rg R cs b (o+1)->Rg R (c::cs) b o
inductive Ve(R:Rd):List PV->List Value->Prop
 |nil:Ve R [] []
 |cons (c:PV) (cs:List PV) (v:Value) (vs:List Value):Ta R c v->Ve R cs vs->Ve R (c::cs) (v::vs)
end
def Sub(R R':Rd):Prop:=∀ b o v,R b o=some v->R' b o=some v
theorem Sub.refl(R:Rd):Sub R R:=fun _ _ _ h=>h
theorem Sub.trans{R R' R'':Rd}(h:Sub R R')(h':Sub R' R''):Sub R R'':=fun b o v e=>h' b o v (h b o v e)
mutual
theorem Ta.mono{R R':Rd}(hs:Sub R R'):∀ {p:PV}{v:Value},Ta R p v->Ta R' p v
 |_,_,.int _ _=> .int _ _
 |_,_,.bool _=> .bool _
 |_,_,.str _=> .str _
 |_,_,.qf=> .qf
 |_,_,.ga=> .ga
 |_,_,.nw=> .nw
 |_,_,.Pw=> .Pw
 |_,_,.PB=> .PB
 |_,_,.rp _ _ _ _ h=> .rp _ _ _ _ (Rg.mono hs h)
 |_,_,.lit _ _ _ _ _ h1 h2 h3=> .lit _ _ _ _ _ h1 h2 (Rg.mono hs h3)
 |_,_,.IE _ _=> .IE _ _
 |_,_,.agg _ _ h=> .agg _ _ (Ve.mono hs h)
 |_,_,.mc _ _ h=> .mc _ _ (Ve.mono hs h)
 |_,_,.iface _ _ _ h=> .iface _ _ _ (Ta.mono hs h)
theorem Rg.mono{R R':Rd}(hs:Sub R R'):∀ {p:List PV}{b o:Nat},Rg R p b o->Rg R' p b o
 |_,_,_,.nil _ _=> .nil _ _
 |_,_,_,.cons _ _ _ _ _ h1 h0 h2 h3=> .cons _ _ _ _ _ (hs _ _ _ h1) h0 (Ta.mono hs h2) (Rg.mono hs h3)
theorem Ve.mono{R R':Rd}(hs:Sub R R'):∀ {p:List PV}{v:List Value},Ve R p v->Ve R' p v
 |_,_,.nil=> .nil
 |_,_,.cons _ _ _ _ h1 h2=> .cons _ _ _ _ (Ta.mono hs h1) (Ve.mono hs h2)
end
theorem Ve.length{R:Rd}{ps:List PV}{vs:List Value}(h:Ve R ps vs):vs.length=ps.length:=by
 induction ps generalizing vs with
 |nil=>cases h;rfl
 |cons p ps ih=>cases h with | cons _ _ _ _ _ h2=>simp[ih h2]
theorem Ve.get{R:Rd}{ps:List PV}{vs:List Value}(h:Ve R ps vs){i:Nat}{p:PV}(hp:ps[i]? =some p):∃ v,vs[i]? =some v/\Ta R p v:=by
 induction ps generalizing vs i with
 |nil=>simp at hp
 |cons q ps ih=>
  cases h with
  |cons _ _ v vs h1 h2=>
   cases i with
   |zero=>simp at hp;subst hp;exact⟨v,rfl,h1⟩
   |succ i=>simpa using ih h2 (by simpa using hp)
theorem Ve.take{R:Rd}{ps:List PV}{vs:List Value}(h:Ve R ps vs)(n:Nat):Ve R (ps.take n) (vs.take n):=by
 induction ps generalizing vs n with
 |nil=>cases h;simpa using Ve.nil
 |cons q ps ih=>
  cases h with
  |cons _ _ v vs h1 h2=>
   cases n with
   |zero=>simpa using Ve.nil
   |succ n=>simpa using Ve.cons _ _ _ _ h1 (ih h2 n)
theorem Ve.drop{R:Rd}{ps:List PV}{vs:List Value}(h:Ve R ps vs)(n:Nat):Ve R (ps.drop n) (vs.drop n):=by
 induction ps generalizing vs n with
 |nil=>cases h;simpa using Ve.nil
 |cons q ps ih=>
  cases h with
  |cons _ _ v vs h1 h2=>
   cases n with
   |zero=>simpa using Ve.cons _ _ _ _ h1 h2
   |succ n=>simpa using ih h2 n
theorem Rg.get{R:Rd}{ps:List PV}{b o:Nat}(h:Rg R ps b o){i:Nat}{p:PV}(hp:ps[i]? =some p):∃ v,R b (o+i)=some v/\Ta R p v:=by
 induction ps generalizing o i with
 |nil=>simp at hp
 |cons q ps ih=>
  cases h with
  |cons _ _ _ _ v h0 R7 h1 h2=>
   cases i with
   |zero=>simp at hp;subst hp;exact⟨v,h0,h1⟩
   |succ i=>obtain⟨u,hu,hr⟩:=ih h2 (i:=i) (by simpa using hp);exact⟨u,by rw[<- hu];congr 1;omega,hr⟩
theorem Rg.drop{R:Rd}{ps:List PV}{b o:Nat}(h:Rg R ps b o)(n:Nat):Rg R (ps.drop n) b (o+n):=by
 induction ps generalizing o n with
 |nil=>simpa using Rg.nil _ _
 |cons q ps ih=>
  cases n with
  |zero=>simpa using h
  |succ n=>
   cases h with
   |cons _ _ _ _ v h0 R7 h1 h2=>have:=ih h2 n;rw[show o+(n+1)=o+1+n from by omega];simpa using this
theorem Rg.take{R:Rd}{ps:List PV}{b o:Nat}(h:Rg R ps b o)(n:Nat):Rg R (ps.take n) b o:=by
 induction ps generalizing o n with
 |nil=>simpa using Rg.nil _ _
 |cons q ps ih=>
  cases n with
  |zero=>simpa using Rg.nil _ _
  |succ n=>
   cases h with
   |cons _ _ _ _ v h0 R7 h1 h2=>simpa using Rg.cons _ _ _ _ _ h0 R7 h1 (ih h2 n)
theorem Rg.append{R:Rd}{ps qs:List PV}{b o:Nat}(h:Rg R ps b o)(h':Rg R qs b (o+ps.length)):Rg R (ps++qs) b o:=by
 induction ps generalizing o with
 |nil=>simpa using h'
 |cons q ps ih=>
  cases h with
  |cons _ _ _ _ v h0 R7 h1 h2=>exact Rg.cons _ _ _ _ _ h0 R7 h1 (ih h2 (by rw[show o+1+ps.length=o+(q::ps).length from by simp;omega];exact h'))
theorem Rg.Sn{R:Rd}{ps:List PV}{vs:List Value}{b o:Nat}(h:Ve R ps vs)(h1s:∀ v∈vs,v.oneCell'=true)(hr:∀ i v,vs[i]? =some v->R b (o+i)=some v):Rg R ps b o:=by
 induction ps generalizing vs o with
 |nil=>exact .nil _ _
 |cons p ps ih=>
  cases h with
  |cons _ _ v vs h1 h2=>
   refine .cons _ _ _ _ v (by simpa using hr 0 v rfl) (h1s v (by simp)) h1 (ih h2 (fun u hu=>h1s u (by simp[hu])) fun i u hu=> ?_)
   have:=hr (i+1) u (by simpa using hu);rw[<- this];congr 1;omega
theorem Rg.list{R:Rd}{ps:List PV}{b o:Nat}(h:Rg R ps b o):∃ vs,Ve R ps vs/\(∀ v∈vs,v.oneCell'=true)/\∀ i v,vs[i]? =some v->R b (o+i)=some v:=by
 induction ps generalizing o with
 |nil=>exact⟨[],.nil,by simp,fun i v h=>by simp at h⟩
 |cons p ps ih=>
  cases h with
  |cons _ _ _ _ v h0 R7 h1 h2=>
   obtain⟨vs,h3,h5,h4⟩:=ih h2;refine⟨v::vs,.cons _ _ _ _ h1 h3,(fun u hu=>by rcases bab.1 hu with rfl | hu;exact R7;exact h5 u hu),fun i u hu=> ?_⟩;cases i with
   |zero=>simp at hu;subst hu;simpa using h0
   |succ i=>have:=h4 i u (by simpa using hu);rw[<- this];congr 1;omega
theorem ND(xs ys:List PV):flat (xs++ys)=flat xs++flat ys:=by
 induction xs with
 |nil=>rfl
 |cons x xs ih=>simp[flat,ih]
theorem yq{sz:Nat}{es:List PV}(h:∀ e∈es,e.cells.length=sz):(flat es).length=es.length * sz:=by
 induction es with
 |nil=>simp[flat]
 |cons e es ih=>have h1:=h e (by simp);have h2:=ih fun x hx=>h x (by simp[hx]);simp[flat,h1,h2,Nat.add_mul];omega
theorem Mz{sz:Nat}{es:List PV}(h:∀ e∈es,e.cells.length=sz)(n:Nat):flat (es.drop n)=(flat es).drop (n * sz):=by
 induction es generalizing n with
 |nil=>simp[flat]
 |cons e es ih=>
  cases n with
  |zero=>simp
  |succ n=>
   have h1:=h e (by simp);have h2:=ih (fun x hx=>h x (by simp[hx])) n;simp only[jad,h2,flat];rw[Hae,h1];have:(n+1) * sz - sz=n * sz:=by rw[Nat.add_mul];omega
   rw[dac (as:=e.cells) (by rw[h1,Nat.add_mul];omega),this,cab]
theorem Mu{sz:Nat}{es:List PV}(h:∀ e∈es,e.cells.length=sz)(n:Nat):flat (es.take n)=(flat es).take (n * sz):=by
 induction es generalizing n with
 |nil=>simp[flat]
 |cons e es ih=>
  cases n with
  |zero=>simp[flat]
  |succ n=>
   have h1:=h e (by simp);have h2:=ih (fun x hx=>h x (by simp[hx])) n;simp only[yad,h2,flat];rw[Iae,h1];have:(n+1) * sz - sz=n * sz:=by rw[Nat.add_mul];omega
   rw[Zaa (l:=e.cells) (by rw[h1,Nat.add_mul];omega),this]
theorem iM{sz:Nat}{es:List PV}(h:∀ e∈es,e.cells.length=sz){i:Nat}{e:PV}(he:es[i]? =some e):((flat es).drop (i * sz)).take sz=e.cells:=by
 rw[<- Mz h i];have hl:i < es.length:=by
  rcases Xaa i es.length with h | h
  ·exact h
  ·rw[Yaa h] at he;cases he
 have:es.drop i=e::es.drop (i+1):=by
  rw[caa hl] at he;injection he with he
  rw[<- he];exact Waa hl
 rw[this];simp only[flat];have h1:=h e (sab he);rw[Iae,h1,uad,List.take_zero,Kab,Zaa (by omega)]
abbrev Pl:=Nat->Nat×Nat
def K(R:Rd)(φ:Pl)(H:List ba):AV->Value->Prop
 | .pv p,v=>Ta R p v
 | .ptr id off,v=>id < H.length/\v.oneCell'=true/\∀ c,H[id]? =some (.box c)->v= .pointer (some ⟨(φ id).1,off,none⟩)
 | .Ec id n off,v=>id < H.length/\v.oneCell'=true/\∀ sz ag c fl nl,H[id]? =some (.seq sz ag c fl nl)->n<=c.length/\(fl<=n->(c.length=n->v= .pointer (some ⟨(φ id).1,off,none⟩))/\
    ∀ ps,Tc (c.take n)=some ps->0 < n->v= .pointer (some ⟨(φ id).1,off,none⟩)\/∃ b o,v= .pointer (some ⟨b,o+off,none⟩)/\Rg R ps b o)
 | .uq id nl sz es,v=>id < H.length/\(nl=true->v= .slice none 0 0/\es=[])/\(nl=false->Ta R (.lit sz es) v)/\
    ∀ sz' n nl',H[id]? =some (.tok sz' n nl')->es.length<=n/\(n=es.length->nl'=nl/\sz'=sz/\(nl=false->v= .slice (some ⟨(φ id).1,0,none⟩) n (φ id).2))
 | .own id len,v=>id < H.length/\v.oneCell'=true/\∀ sz ag c fl nl,H[id]? =some (.seq sz ag c fl nl)->len * sz<=c.length/\(fl<=len * sz->
    (nl=true->v= .slice none 0 0)/\
    (nl=false->(len=0/\c≠[]/\v= .slice none 0 0)\/∃ b o cap,v= .slice (some ⟨b,o,none⟩) len cap/\(len * sz=c.length->b=(φ id).1/\o=0/\cap=(φ id).2)/\
     (∀ ps,Tc (c.take (len * sz))=some ps->(b=(φ id).1/\o=0)\/Rg R ps b o)))
 | .mp id,v=>id < H.length/\v.oneCell'=true/\∀ es,H[id]? =some (.map es)->v= .map (some (φ id).1)
 |_,_=>False
mutual
inductive Sc(fo:Nat->FuncId)(K:AV->Value->Prop):AV->Value->Prop
 |atom (a:AV) (v:Value):K a v->Sc fo K a v
 |Ol (ix:Nat) (cs:List AV) (vs:List Value):mb fo K cs vs->Sc fo K (.Ol ix cs) (.func (.func (fo ix)) #[] ⟨vs⟩)
 |agg (cs:List AV) (vs:List Value):mb fo K cs vs->Sc fo K (.agg cs) (.agg ⟨vs⟩)
 |mc (cs:List AV) (vs:List Value):mb fo K cs vs->Sc fo K (.mc cs) (.tuple ⟨vs⟩)
 |undef (v:Value):Sc fo K .undef v
inductive mb(fo:Nat->FuncId)(K:AV->Value->Prop):List AV->List Value->Prop
 |nil:mb fo K [] []
 |cons (a:AV) (as:List AV) (v:Value) (vs:List Value):Sc fo K a v->mb fo K as vs->mb fo K (a::as) (v::vs)
end
mutual
theorem Sc.mono{fo:Nat->FuncId}{K K':AV->Value->Prop}(hk:∀ a v,K a v->K' a v):∀ {a:AV}{v:Value},Sc fo K a v->Sc fo K' a v
 |_,_,.atom _ _ h=> .atom _ _ (hk _ _ h)
 |_,_,.Ol _ _ _ h=> .Ol _ _ _ (mb.mono hk h)
 |_,_,.agg _ _ h=> .agg _ _ (mb.mono hk h)
 |_,_,.mc _ _ h=> .mc _ _ (mb.mono hk h)
 |_,_,.undef _=> .undef _
theorem mb.mono{fo:Nat->FuncId}{K K':AV->Value->Prop}(hk:∀ a v,K a v->K' a v):∀ {a:List AV}{v:List Value},mb fo K a v->mb fo K' a v
 |_,_,.nil=> .nil
 |_,_,.cons _ _ _ _ h1 h2=> .cons _ _ _ _ (Sc.mono hk h1) (mb.mono hk h2)
end
section lists
variable {fo:Nat->FuncId}{K:AV->Value->Prop}
theorem mb.length{as:List AV}{vs:List Value}(h:mb fo K as vs):vs.length=as.length:=by
 induction as generalizing vs with
 |nil=>cases h;rfl
 |cons p ps ih=>cases h with | cons _ _ _ _ _ h2=>simp[ih h2]
theorem mb.get{as:List AV}{vs:List Value}(h:mb fo K as vs){i:Nat}{a:AV}(hp:as[i]? =some a):∃ v,vs[i]? =some v/\Sc fo K a v:=by
 induction as generalizing vs i with
 |nil=>simp at hp
 |cons q ps ih=>
  cases h with
  |cons _ _ v vs h1 h2=>
   cases i with
   |zero=>simp at hp;subst hp;exact⟨v,rfl,h1⟩
   |succ i=>simpa using ih h2 (by simpa using hp)
theorem mb.take{as:List AV}{vs:List Value}(h:mb fo K as vs)(n:Nat):mb fo K (as.take n) (vs.take n):=by
 induction as generalizing vs n with
 |nil=>cases h;simpa using mb.nil
 |cons q ps ih=>
  cases h with
  |cons _ _ v vs h1 h2=>
   cases n with
   |zero=>simpa using mb.nil
   |succ n=>simpa using mb.cons _ _ _ _ h1 (ih h2 n)
theorem mb.drop{as:List AV}{vs:List Value}(h:mb fo K as vs)(n:Nat):mb fo K (as.drop n) (vs.drop n):=by
 induction as generalizing vs n with
 |nil=>cases h;simpa using mb.nil
 |cons q ps ih=>
  cases h with
  |cons _ _ v vs h1 h2=>
   cases n with
   |zero=>simpa using mb.cons _ _ _ _ h1 h2
   |succ n=>simpa using ih h2 n
theorem mb.append{as bs:List AV}{vs us:List Value}(h:mb fo K as vs)(h':mb fo K bs us):mb fo K (as++bs) (vs++us):=by
 induction as generalizing vs with
 |nil=>cases h;simpa using h'
 |cons q ps ih=>
  cases h with
  |cons _ _ v vs h1 h2=>exact .cons _ _ _ _ h1 (ih h2)
theorem mb.set{as:List AV}{vs:List Value}(h:mb fo K as vs)(i:Nat){a:AV}{v:Value}(hv:Sc fo K a v):mb fo K (as.set i a) (vs.set i v):=by
 induction as generalizing vs i with
 |nil=>cases h;simpa using mb.nil
 |cons q ps ih=>
  cases h with
  |cons _ _ u us h1 h2=>
   cases i with
   |zero=>exact .cons _ _ _ _ hv h2
   |succ i=>exact .cons _ _ _ _ h1 (ih h2 i)
theorem mb.RG{R:Rd}{φ:Pl}{H:List ba}{ps:List PV}{vs:List Value}(h:Ve R ps vs):mb fo (AM.K R φ H) (ps.map .pv) vs:=by
 induction ps generalizing vs with
 |nil=>cases h;exact .nil
 |cons p ps ih=>cases h with | cons _ _ v vs h1 h2=>exact .cons _ _ _ _ (.atom _ _ h1) (ih h2)
theorem mb.S3{α:Type}{f:α->AV}{g:α->Value}(l:List α)(h:∀ x∈l,Sc fo K (f x) (g x)):mb fo K (l.map f) (l.map g):=by
 induction l with
 |nil=>exact .nil
 |cons x l ih=>exact .cons _ _ _ _ (h x (by simp)) (ih fun y hy=>h y (by simp[hy]))
end lists
theorem Sc.Sb{fo:Nat->FuncId}{R:Rd}{φ:Pl}{H:List ba}{p:PV}{v:Value}(h:Sc fo (K R φ H) (.pv p) v):Ta R p v:=by
 cases h with | atom _ _ h=>exact h
theorem Rk{fo:Nat->FuncId}{R:Rd}{φ:Pl}{H:List ba}{as:List AV}{ps:List PV}{vs:List Value}(hp:Tc as=some ps)(h:mb fo (K R φ H) as vs):Ve R ps vs:=by
 induction as generalizing ps vs with
 |nil=>simp[Tc] at hp;subst hp;cases h;exact .nil
 |cons a as ih=>
  cases a with
  |pv p=>simp only[Tc,faa] at hp;obtain⟨qs,hq,rfl⟩:=hp;cases h with | cons _ _ v vs h1 h2=>exact .cons _ _ _ _ h1.Sb (ih hq h2)
  |_=>simp[Tc] at hp
theorem Tf{as:List AV}{ps:List PV}(hp:Tc as=some ps):as=ps.map .pv:=by
 induction as generalizing ps with
 |nil=>simp[Tc] at hp;subst hp;rfl
 |cons a as ih=>
  cases a with
  |pv p=>simp only[Tc,faa] at hp;obtain⟨qs,hq,rfl⟩:=hp;simp[ih hq]
  |_=>simp[Tc] at hp
theorem qK(ps:List PV):Tc (ps.map .pv)=some ps:=by
 induction ps with
 |nil=>rfl
 |cons p ps ih=>simp[Tc,ih]
theorem Lz{fo:Nat->FuncId}{R:Rd}{φ:Pl}{H:List ba}{as:List AV}{vs:List Value}(h:mb fo (K R φ H) as vs):Sc fo (K R φ H) (gv as) (.agg ⟨vs⟩):=by
 unfold gv;cases e:Tc as with
 |some ps=>exact .atom _ _ (show Ta R _ _ from .agg _ _ (Rk e h))
 |none=>exact .agg _ _ h
theorem SJ{fo:Nat->FuncId}{R:Rd}{φ:Pl}{H:List ba}{as:List AV}{vs:List Value}(h:mb fo (K R φ H) as vs):Sc fo (K R φ H) (qy as) (.tuple ⟨vs⟩):=by
 unfold qy;cases e:Tc as with
 |some ps=>exact .atom _ _ (show Ta R _ _ from .mc _ _ (Rk e h))
 |none=>exact .mc _ _ h
def sq:ba->Prop
 | .box _=>True
 | .seq _ _ _ _ nl=>nl=false
 | .tok _ _ nl=>nl=false
 | .map _=>True
 | .dead=>False
def live(H:List ba)(i:Nat):Prop:=∃ o,H[i]? =some o/\sq o
def Nz(w:World)(b:Nat)(arr:Array Value):Prop:=∃ ty fz,w.heap[b]? =some (.cells arr ty fz)/\∀ o,o < arr.size->¬(fz.1<=o/\o < fz.2)
def Ey(R:Rd):List (PV×PV)->List MapEntry->Prop
 | [],[]=>True
 |e::es,x::xs=>Ta R e.1 x.key/\Ta R e.2 x.val/\Ey R es xs
 |_,_=>False
theorem Ey.mono{R R':Rd}(hk:∀ p v,Ta R p v->Ta R' p v):∀ {es:List (PV×PV)}{xs:List MapEntry},Ey R es xs->Ey R' es xs
 | [],[],_=>trivial
 |_::_,_::_,h=>⟨hk _ _ h.1,hk _ _ h.2.1,Ey.mono hk h.2.2⟩
 | [],_::_,h=>h.elim
 |_::_,[],h=>h.elim
def xC(fo:Nat->FuncId)(B0:wg)(w:World)(R:Rd)(φ:Pl)(H:List ba)(id:Nat):ba->Prop
 | .box cells=>B0<=(φ id).1/\(∀ o,R (φ id).1 o=none)/\cells.all AV.one=true/\∃ arr,Nz w (φ id).1 arr/\mb fo (K R φ H) cells arr.toList
 | .seq sz _ cells fl nl=>0 < sz/\fl<=cells.length/\(nl=true->cells=[])/\cells.all AV.one=true/\
    (nl=false->B0<=(φ id).1/\(∀ o,R (φ id).1 o=none)/\∃ arr,Nz w (φ id).1 arr/\arr.size=(φ id).2 * sz/\cells.length<=arr.size/\mb fo (K R φ H) cells (arr.toList.take cells.length))
 | .tok sz n nl=>0 < sz/\(nl=true->n=0)/\
    (nl=false->B0<=(φ id).1/\(∀ o,n * sz<=o->R (φ id).1 o=none)/\∃ arr,Nz w (φ id).1 arr/\arr.size=(φ id).2 * sz/\n * sz<=arr.size)
 | .map es=>B0<=(φ id).1/\(∀ o,R (φ id).1 o=none)/\∃ N7 clk,w.heap[(φ id).1]? =some (.map N7 clk)/\Ey R es N7.toList
 | .dead=>True
structure vc(fo:Nat->FuncId)(B0:wg)(w:World)(R:Rd)(φ:Pl)(H:List ba):Prop where
 low:B0<=w.heap.size
 sub:∀ b o v,R b o=some v->w.cell? ⟨b,o,none⟩=some v
 obj:∀ id o,H[id]? =some o->xC fo B0 w R φ H id o
 inj:∀ i j,live H i->live H j->(φ i).1=(φ j).1->i=j
 Dq:∀ b o,b < B0.n->R b o=B0.R b o
 slt:∀ k,B0.S k->k < w.heap.size
 free:∀ i,live H i->¬B0.S (φ i).1
def ij(fo:Nat->FuncId)(K:AV->Value->Prop)(e:Tr)(a:Act):Prop:=∀ t,Sc fo K (e.get t) (a.tmps.getD t undef)
theorem ij.mono{fo:Nat->FuncId}{K K':AV->Value->Prop}{e:Tr}{a:Act}(h:ij fo K e a)(hk:∀ a v,K a v->K' a v):ij fo K' e a:=fun t=>(h t).mono hk
theorem Nz.lt{w:World}{b:Nat}{arr:Array Value}(h:Nz w b arr):b < w.heap.size:=by
 obtain⟨ty,fz,h,_⟩:=h;rcases Xaa b w.heap.size with hlt | hge
 ·exact hlt
 ·rw[Qad hge] at h;cases h
theorem Nz.cell{w:World}{b:Nat}{arr:Array Value}(h:Nz w b arr)(o:Nat):w.cell? ⟨b,o,none⟩=arr[o]? :=by
 obtain⟨ty,fz,h,_⟩:=h;simp[World.cell?,h]
theorem Nz.frozen{w:World}{b:Nat}{arr:Array Value}(h:Nz w b arr){o:Nat}(ho:o < arr.size):w.frozen? ⟨b,o,none⟩=false:=by
 obtain⟨ty,fz,h,hf⟩:=h;have:=hf o ho;simp only[World.frozen?,h];rw[<- Bool.not_eq_true];simpa using this
theorem Nz.ie{w w':World}{b:Nat}{arr:Array Value}(h:Nz w b arr)(hk:w'.heap[b]? =w.heap[b]?):Nz w' b arr:=by
 obtain⟨ty,fz,h,hf⟩:=h;exact⟨ty,fz,hk.trans h,hf⟩
theorem Em{w:World}{b o:Nat}{v:Value}(h:w.cell? ⟨b,o,none⟩=some v):b < w.heap.size:=by
 rcases Xaa b w.heap.size with hlt | hge
 ·exact hlt
 ·simp[World.cell?,Qad hge] at h
end Go.AM
namespace Go.AM
open Go.RowKit
theorem Pn(b o j:Nat):(⟨b,o,none⟩:Addr).add j=⟨b,o+j,none⟩:=by
 unfold Addr.add
 by_cases h:j=0
 ·subst h;simp
 ·simp[h]
theorem Xc{α:Type}(cs:List α)(o:Nat)(vs:List α):(fa cs o vs).length=cs.length:=by
 induction vs generalizing cs o with
 |nil=>rfl
 |cons v vs ih=>simp[fa,ih]
theorem cO{α:Type}(vs:List α):∀ (cs:List α)(o n:Nat),o+vs.length<=n->(fa cs o vs).take n=fa (cs.take n) o vs:=by
 induction vs with
 |nil=>intro cs o n _;rfl
 |cons v vs ih=>intro cs o n h;simp only[Raa] at h;simp only[fa];rw[ih _ _ _ (by omega),List.take_set]
section rel
variable {fo:Nat->FuncId}{K:AV->Value->Prop}
theorem mb.fa{as bs:List AV}{vs us:List Value}(h:mb fo K as vs)(o:Nat)(h':mb fo K bs us):mb fo K (AM.fa as o bs) (AM.fa vs o us):=by
 induction bs generalizing as vs us o with
 |nil=>cases h';exact h
 |cons b bs ih=>cases h' with | cons _ _ u us h1 h2=>exact ih (h.set o h1) (o+1) h2
end rel
def Hm(P:Program)(t:TypeId):Option Bool:=
 match P.underlying t with
 |some (.struct _)=>some true
 |some (.array _ _)=>some true
 |some _=>some false
 |none=>none
def Ud(P:Program)(t:TypeId):Option Nat:=(P.info? t).map (·.size)
def Sq(P:Program)(t:TypeId):Option Nat:=(P.info? t).map (·.bytes)
section runs
variable {P:Program}
theorem Ww{t:TypeId}{b:Bool}(h:Hm P t=some b)(w:World):(isAgg t).run P w= .ok b w:=by
 unfold Hm at h;cases hu:P.underlying t with
 |none=>simp[hu] at h
 |some d=>simp only[hu] at h;simp only[isAgg,Sem.run_bind,run_underlying hu,Result.andThen_ok];cases d <;> simp_all
theorem zc{t:TypeId}{n:Nat}(h:Ud P t=some n)(w:World):(sizeOf t).run P w= .ok n w:=by
 unfold Ud at h;cases hi:P.info? t with
 |none=>simp[hi] at h
 |some i=>simp only[hi,Kaa,eaa] at h;simp[sizeOf,run_typeInfo w hi,h]
theorem eE{t:TypeId}{b o n:Nat}{vs:List Value}(w:World)(ha:Hm P t=some true)(hn:Ud P t=some n)(hl:vs.length=n)
 (hc:∀ j v,vs[j]? =some v->w.cell? ⟨b,o+j,none⟩=some v):(loadVar t ⟨b,o,none⟩).run P w= .ok (.agg ⟨vs⟩) w:=by
 have:=run_loadCells_list (P:=P) w ⟨b,o,none⟩ vs (fun j v hv=>by rw[Pn];exact hc j v hv);rw[hl] at this;simp[loadVar,Ww ha,zc hn,this]
theorem MD{t:TypeId}{b o:Nat}{v:Value}(w:World)(ha:Hm P t=some false)(hc:w.cell? ⟨b,o,none⟩=some v):(loadVar t ⟨b,o,none⟩).run P w= .ok v w:=by
 simp[loadVar,Ww ha,hc]
def Ks(w:World)(b:Nat)(arr:List Value)(ty:TypeId)(fz:Nat×Nat):World:={w with heap:=w.heap.setIfInBounds b (.cells ⟨arr⟩ ty fz)}
theorem Vq{b:Nat}{ty:TypeId}{fz:Nat×Nat}(o:Nat):∀ (vs:List Value)(i:Nat)(arr:List Value)(w:World),w.heap[b]? =some (.cells ⟨arr⟩ ty fz)->
 (∀ j,j < arr.length->¬(fz.1<=j/\j < fz.2))->o+i+vs.length<=arr.length->(∀ v∈vs,v.oneCell'=true)->
 (storeCells ⟨b,o,none⟩ vs i).run P w= .ok () (Ks w b (fa arr (o+i) vs) ty fz)
 | [],i,arr,w,hb,hf,hl,h1=>by
   obtain⟨hlt,hbe⟩:=Uac.1 hb
   have:w.heap.setIfInBounds b (.cells ⟨arr⟩ ty fz)=w.heap:=by
    apply Array.ext_getElem?
    intro j;rw[Array.getElem?_setIfInBounds]
    by_cases e:b=j
    ·subst e;simp[hlt,hbe]
    ·simp[e]
   simp[storeCells,Ks,fa,this]
 |v::vs,i,arr,w,hb,hf,hl,h1=>by
  obtain⟨hlt,hbe⟩:=Uac.1 hb
  simp only[Raa] at hl;have hcell:w.cell? ⟨b,o+i,none⟩=some (arr[o+i]'(by omega)):=by simp only[World.cell?,hb];simp
  have hfr:w.frozen? ⟨b,o+i,none⟩=false:=by have:=hf (o+i) (by omega);simp only[World.frozen?,hb];rw[<- Bool.not_eq_true];simpa using this
  have F8:(w.setCell ⟨b,o+i,none⟩ v)=Ks w b (arr.set (o+i) v) ty fz:=by
   unfold World.setCell Ks
   congr 1
   apply Array.ext_getElem?
   intro j;rw[sad,Array.getElem?_setIfInBounds]
   by_cases e:b=j
   ·subst e;simp[hlt,hbe]
   ·simp[e]
  have ih:=Vq (b:=b) (ty:=ty) (fz:=fz) o vs (i+1) (arr.set (o+i) v) (Ks w b (arr.set (o+i) v) ty fz)
   (by simp[Ks,hlt]) (by simpa using hf) (by simp;omega) (fun u hu=>h1 u (by simp[hu]))
  simp only[storeCells,Sem.run_bind,Pn];rw[run_store P w _ _ _ (h1 v (by simp))];simp only[hcell,hfr,Baa,if_false,Result.andThen_ok,F8,ih];simp[Ks,fa,Nat.add_assoc]
theorem Zz{t:TypeId}{b o n:Nat}{ty:TypeId}{fz:Nat×Nat}{arr:List Value}{v:Value}(w:World)(hn:Ud P t=some n)(hv:v.cells.toList.length=n)
 (hb:w.heap[b]? =some (.cells ⟨arr⟩ ty fz)) (hf:∀ j,j < arr.length->¬(fz.1<=j/\j < fz.2)) (hl:o+n<=arr.length) (h1:∀ u∈v.cells.toList,u.oneCell'=true):
 (storeVar t ⟨b,o,none⟩ v).run P w= .ok () (Ks w b (fa arr o v.cells.toList) ty fz):=by
 have:=Vq (P:=P) (b:=b) o v.cells.toList 0 arr w hb hf (by omega) h1
 have K7:v.cells.size=n:=by simpa using hv
 simp only[tae] at this;simp[storeVar,zc hn,K7,this]
end runs
theorem sI{v:Value}(h:v.oneCell'=true):v.cells.toList=[v]:=by
 cases v <;> simp_all [Value.cells,Value.oneCell']
theorem Ta.one{R:Rd}{p:PV}{v:Value}(h:Ta R p v)(hp:(AV.pv p).one=true):v.oneCell'=true:=by
 cases h <;> simp_all [AV.one,Value.oneCell']
theorem Sc.one{fo:Nat->FuncId}{R:Rd}{φ:Pl}{H:List ba}{a:AV}{v:Value}(h:Sc fo (K R φ H) a v)(ha:a.one=true):v.oneCell'=true:=by
 cases h with
 |atom a v h=>
  cases a with
  |pv p=>exact Ta.one h ha
  |ptr id off=>exact h.2.1
  |Ec id n off=>exact h.2.1
  |own id len=>exact h.2.1
  |mp id=>exact h.2.1
  |uq id nl sz es=>
   obtain⟨_,h1,h2,_⟩:=h;cases nl with
   |true=>rw[(h1 rfl).1];rfl
   |false=>exact Ta.one (h2 rfl) rfl
  |Ol ix cs=>exact h.elim
  |agg cs=>exact h.elim
  |mc cs=>exact h.elim
  |undef=>exact h.elim
 |Ol ix cs vs h=>rfl
 |agg cs vs h=>simp[AV.one] at ha
 |mc cs vs h=>simp[AV.one] at ha
 |undef v=>simp[AV.one] at ha
theorem Cz{fo:Nat->FuncId}{R:Rd}{φ:Pl}{H:List ba}{a:AV}{v:Value}(h:Sc fo (K R φ H) a v)(hu:a.cells.all AV.one=true):
 mb fo (K R φ H) a.cells v.cells.toList:=by
 have key:∀ {a:AV}{v:Value},Sc fo (K R φ H) a v->a.cells=[a]->a.cells.all AV.one=true->mb fo (K R φ H) a.cells v.cells.toList:=by
  intro a v h e hu;rw[e] at hu ⊢;have h1:a.one=true:=by simpa using hu
  rw[sI (h.one h1)];exact .cons _ _ _ _ h .nil
 cases h with
 |atom a v h=>
  cases a with
  |pv p=>
   cases p with
   |agg cs=>have h2:Ta R (.agg cs) v:=h;cases h2 with | agg _ vs hh=>simpa[AV.cells,PV.cells,Value.cells] using mb.RG hh
   |_=>exact key (.atom _ _ h) rfl hu
  |agg cs=>exact h.elim
  |_=>exact key (.atom _ _ h) rfl hu
 |Ol ix cs vs h=>exact key (.Ol _ _ _ h) rfl hu
 |agg cs vs h=>simpa[AV.cells,Value.cells] using h
 |mc cs vs h=>exact key (.mc _ _ h) rfl hu
 |undef v=>exact key (.undef _) rfl hu
theorem Wp{fo:Nat->FuncId}{R:Rd}{φ:Pl}{H:List ba}{as:List AV}{vs:List Value}(h:mb fo (K R φ H) as vs)(ha:as.all AV.one=true):∀ v∈vs,v.oneCell'=true:=by
 induction as generalizing vs with
 |nil=>cases h;simp
 |cons a as ih=>
  cases h with
  |cons _ _ v vs h1 h2=>
   simp only[zac,daa] at ha;intro u hu;rcases bab.1 hu with rfl | hu
   ·exact h1.one ha.1
   ·exact ih h2 ha.2 u hu
end Go.AM
namespace Go.AM
open Go.RowKit
def Wm(φ:Pl)(id:Nat)(p:Nat×Nat):Pl:=fun i=>if i=id then p else φ i
theorem Fb(φ:Pl)(id:Nat)(p:Nat×Nat):Wm φ id p id=p:=by simp[Wm]
theorem De(φ:Pl){id j:Nat}(p:Nat×Nat)(h:j≠id):Wm φ id p j=φ j:=by simp[Wm,h]
theorem K.sub{R R':Rd}{φ:Pl}{H:List ba}(hs:Sub R R')(a:AV)(v:Value)(h:K R φ H a v):K R' φ H a v:=by
 cases a with
 |pv p=>exact Ta.mono hs h
 |ptr id off=>exact h
 |Ec id n off=>
  refine⟨h.1,h.2.1,fun sz ag c fl nl e=> ?_⟩;obtain⟨k0,k⟩:=h.2.2 sz ag c fl nl e
  refine⟨k0,fun hf=> ?_⟩;obtain⟨k1,k2⟩:=k hf;refine⟨k1,fun ps hp h0=> ?_⟩;rcases k2 ps hp h0 with q | ⟨b,o,q1,q2⟩
  ·exact .inl q
  ·exact .inr ⟨b,o,q1,q2.mono hs⟩
 |uq id nl sz es=>exact⟨h.1,h.2.1,fun e=>(h.2.2.1 e).mono hs,h.2.2.2⟩
 |own id len=>
  refine⟨h.1,h.2.1,fun sz ag c fl nl e=> ?_⟩;obtain⟨k0,k⟩:=h.2.2 sz ag c fl nl e
  refine⟨k0,fun hf=> ?_⟩;obtain⟨k1,k2⟩:=k hf;refine⟨k1,fun hn=> ?_⟩;rcases k2 hn with hq | ⟨b,o,cap,q1,q2,q3⟩
  ·exact .inl hq
  ·exact .inr ⟨b,o,cap,q1,q2,fun ps hp=>(q3 ps hp).imp (fun x=>x) (Rg.mono hs)⟩
 |mp id=>exact h
 |Ol ix cs=>exact h.elim
 |agg cs=>exact h.elim
 |mc cs=>exact h.elim
 |undef=>exact h.elim
theorem getElem?_push{H:List ba}{o:ba}{id:Nat}(h:id < H.length):(H++[o])[id]? =H[id]? :=by
 rw[gaa h]
theorem K.push{R:Rd}{φ:Pl}{H:List ba}(o:ba)(p:Nat×Nat)(a:AV)(v:Value)(h:K R φ H a v):K R (Wm φ H.length p) (H++[o]) a v:=by
 have key:∀ {id:Nat},id < H.length->id < (H++[o]).length/\(H++[o])[id]? =H[id]? /\Wm φ H.length p id=φ id:=by intro id h;exact⟨by simp;omega,getElem?_push h,De _ _ (by omega)⟩
 cases a with
 |pv p=>exact h
 |ptr id off=>
  obtain⟨k1,k2,k3⟩:=key h.1
  exact⟨k1,h.2.1,by rw[k2,k3];exact h.2.2⟩
 |Ec id n off=>
  obtain⟨k1,k2,k3⟩:=key h.1
  exact⟨k1,h.2.1,by rw[k2,k3];exact h.2.2⟩
 |uq id nl sz es=>
  obtain⟨k1,k2,k3⟩:=key h.1
  exact⟨k1,h.2.1,h.2.2.1,by rw[k2,k3];exact h.2.2.2⟩
 |own id len=>
  obtain⟨k1,k2,k3⟩:=key h.1
  exact⟨k1,h.2.1,by rw[k2,k3];exact h.2.2⟩
 |mp id=>
  obtain⟨k1,k2,k3⟩:=key h.1
  exact⟨k1,h.2.1,by rw[k2,k3];exact h.2.2⟩
 |Ol ix cs=>exact h.elim
 |agg cs=>exact h.elim
 |mc cs=>exact h.elim
 |undef=>exact h.elim
theorem xC.ie{fo:Nat->FuncId}{B0:wg}{w w':World}{R R':Rd}{φ φ':Pl}{H H':List ba}{id:Nat}{o:ba}(h:xC fo B0 w R φ H id o)
 (hl:sq o->w'.heap[(φ id).1]? =w.heap[(φ id).1]? /\∀ j,R (φ id).1 j=none->R' (φ id).1 j=none) (hφ:φ' id=φ id) (hk:∀ a v,K R φ H a v->K R' φ' H' a v):
 xC fo B0 w' R' φ' H' id o:=by
 cases o with
 |box cells=>obtain⟨h1,h2,ha,arr,h3,h4⟩:=h;obtain⟨l1,l2⟩:=hl trivial;exact⟨by rw[hφ];exact h1,by rw[hφ];exact fun j=>l2 j (h2 j),ha,arr,by rw[hφ];exact h3.ie l1,h4.mono hk⟩
 |seq sz ag cells fl nl=>obtain⟨h0,h1,h2,h4,h3⟩:=h;refine⟨h0,h1,h2,h4,fun hn=> ?_⟩;obtain⟨k1,k2,arr,k3,k4,k5,k6⟩:=h3 hn;obtain⟨l1,l2⟩:=hl hn;exact⟨by rw[hφ];exact k1,by rw[hφ];exact fun j=>l2 j (k2 j),arr,by rw[hφ];exact k3.ie l1,by rw[hφ];exact k4,k5,k6.mono hk⟩
 |tok sz n nl=>obtain⟨h0,h2,h3⟩:=h;refine⟨h0,h2,fun hn=> ?_⟩;obtain⟨k1,k2,arr,k3,k4,k5⟩:=h3 hn;obtain⟨l1,l2⟩:=hl hn;exact⟨by rw[hφ];exact k1,by rw[hφ];exact fun j hj=>l2 j (k2 j hj),arr,by rw[hφ];exact k3.ie l1,by rw[hφ];exact k4,k5⟩
 |map es=>obtain⟨h1,h2,N7,clk,h3,h4⟩:=h;obtain⟨l1,l2⟩:=hl trivial;exact⟨by rw[hφ];exact h1,by rw[hφ];exact fun j=>l2 j (h2 j),N7,clk,by rw[hφ,l1];exact h3,h4.mono fun p v hp=>hk (.pv p) v hp⟩
 |dead=>trivial
theorem xC.lt{fo:Nat->FuncId}{B0:wg}{w:World}{R:Rd}{φ:Pl}{H:List ba}{id:Nat}{o:ba}(h:xC fo B0 w R φ H id o)(hl:sq o):(φ id).1 < w.heap.size:=by
 cases o with
 |box cells=>obtain⟨_,_,_,arr,h3,_⟩:=h;exact h3.lt
 |seq sz ag cells fl nl=>obtain⟨_,_,arr,h3,_⟩:=h.2.2.2.2 hl;exact h3.lt
 |tok sz n nl=>obtain⟨_,_,arr,h3,_⟩:=h.2.2 hl;exact h3.lt
 |map es=>
  obtain⟨_,_,N7,clk,h3,_⟩:=h;rcases Xaa (φ id).1 w.heap.size with hlt | hge
  ·exact hlt
  ·rw[Qad hge] at h3;cases h3
 |dead=>exact hl.elim
theorem xC.base{fo:Nat->FuncId}{B0:wg}{w:World}{R:Rd}{φ:Pl}{H:List ba}{id:Nat}{o:ba}(h:xC fo B0 w R φ H id o)(hl:sq o):B0.n<=(φ id).1:=by
 cases o with
 |box cells=>exact h.1
 |seq sz ag cells fl nl=>exact (h.2.2.2.2 hl).1
 |tok sz n nl=>exact (h.2.2 hl).1
 |map es=>exact h.1
 |dead=>exact hl.elim
theorem getElem?_lt{α:Type}{l:List α}{i:Nat}{x:α}(h:l[i]? =some x):i < l.length:=by
 rcases Xaa i l.length with hl | hl
 ·exact hl
 ·rw[Yaa hl] at h;cases h
theorem vc.push{fo:Nat->FuncId}{B0:wg}{w w':World}{R R':Rd}{φ:Pl}{H:List ba}{o:ba}{p:Nat×Nat}(hS:vc fo B0 w R φ H)
 (K7:w.heap.size<=w'.heap.size) (hw:∀ b,b < w.heap.size->w'.heap[b]? =w.heap[b]?) (hR:∀ b o,b < w.heap.size->R' b o=R b o) (hsub:∀ b o v,R' b o=some v->w'.cell? ⟨b,o,none⟩=some v)
 (hk:∀ a v,K R φ H a v->K R' (Wm φ H.length p) (H++[o]) a v)
 (F9:sq o->w.heap.size<=p.1) (hO:xC fo B0 w' R' (Wm φ H.length p) (H++[o]) H.length o):vc fo B0 w' R' (Wm φ H.length p) (H++[o]):=by
 have Dq:∀ {i:Nat}{x:ba},(H++[o])[i]? =some x->(i < H.length/\H[i]? =some x)\/(i=H.length/\x=o):=by
  intro i x hx;rcases Nat.lt_trichotomy i H.length with h | h | h
  ·exact .inl ⟨h,by rw[<- getElem?_push h (o:=o)];exact hx⟩
  ·subst h;simp at hx;exact .inr ⟨rfl,hx.symm⟩
  ·rw[Yaa (by simp;omega)] at hx;cases hx
 refine⟨sac hS.low K7,hsub,fun i x hx=> ?_,fun i j hi hj e=> ?_,fun b o hb=>by rw[hR b o (eac hb hS.low)];exact hS.Dq b o hb,fun k hk=>eac (hS.slt k hk) K7,fun i hi hs=> ?_⟩
 ·rcases Dq hx with⟨h,hx⟩ | ⟨rfl,rfl⟩
  ·have hO1:=hS.obj i x hx
   refine hO1.ie (fun hl=>⟨hw _ (hO1.lt hl),fun j hj=>by rw[hR _ _ (hO1.lt hl)];exact hj⟩) (De _ _ (by omega)) hk
  ·exact hO
 ·obtain⟨x,hx,hlx⟩:=hi
  obtain⟨y,hy,hly⟩:=hj;rcases Dq hx with⟨h1,hx'⟩ | ⟨e1,e2⟩ <;> rcases Dq hy with⟨h2,hy'⟩ | ⟨e3,e4⟩
  ·rw[De _ _ (by omega),De _ _ (by omega)] at e
   exact hS.inj i j ⟨x,hx',hlx⟩ ⟨y,hy',hly⟩ e
  ·subst e3 e4
   rw[De _ _ (by omega),Fb] at e;have:=(hS.obj i x hx').lt hlx
   have:=F9 hly;omega
  ·subst e1 e2
   rw[Fb,De _ _ (by omega)] at e;have:=(hS.obj j y hy').lt hly
   have:=F9 hlx;omega
  ·rw[e1,e3]
 ·obtain⟨x,hx,hlx⟩:=hi
  rcases Dq hx with⟨h1,hx'⟩ | ⟨e1,e2⟩
  ·rw[De _ _ (by omega)] at hs
   exact hS.free i ⟨x,hx',hlx⟩ hs
  ·subst e1 e2
   rw[Fb] at hs;have:=hS.slt _ hs
   have:=F9 hlx;omega
theorem vc.Wm{fo:Nat->FuncId}{B0:wg}{w w':World}{R R':Rd}{φ:Pl}{H:List ba}{id:Nat}{o o':ba}{p:Nat×Nat}(hS:vc fo B0 w R φ H)(ho:H[id]? =some o)
 (K7:w.heap.size<=w'.heap.size) (hw:∀ b,b < w.heap.size->(sq o->b≠(φ id).1)->w'.heap[b]? =w.heap[b]?)
 (hR:∀ b j,b < w.heap.size->(sq o->b≠(φ id).1)->R' b j=R b j) (hsub:∀ b o v,R' b o=some v->w'.cell? ⟨b,o,none⟩=some v)
 (hk:∀ a v,K R φ H a v->K R' (AM.Wm φ id p) (H.set id o') a v)
 (F9:sq o'->(sq o/\p.1=(φ id).1)\/w.heap.size<=p.1) (hO:xC fo B0 w' R' (AM.Wm φ id p) (H.set id o') id o'):vc fo B0 w' R' (AM.Wm φ id p) (H.set id o'):=by
 have G7:=getElem?_lt ho;have Dq:∀ {i:Nat}{x:ba},(H.set id o')[i]? =some x->(i≠id/\H[i]? =some x)\/(i=id/\x=o'):=by
  intro i x hx
  by_cases h:i=id
  ·subst h;rw[Qaa G7] at hx;injection hx with hx;exact .inr ⟨rfl,hx.symm⟩
  ·rw[Jaa (rac h)] at hx;exact .inl ⟨h,hx⟩
 have apart:∀ {i:Nat}{x:ba},i≠id->H[i]? =some x->sq x->sq o->(φ i).1≠(φ id).1:=by intro i x I7 hx hlx W8 e;exact I7 (hS.inj i id ⟨x,hx,hlx⟩ ⟨o,ho,W8⟩ e)
 refine⟨sac hS.low K7,hsub,fun i x hx=> ?_,fun i j hi hj e=> ?_,fun b j hb=>by rw[hR b j (eac hb hS.low) (fun hl e=>by have:=(hS.obj id o ho).base hl;omega)];exact hS.Dq b j hb,fun k hk=>eac (hS.slt k hk) K7,fun i hi hs=> ?_⟩
 ·rcases Dq hx with⟨h,hx⟩ | ⟨rfl,rfl⟩
  ·have hO1:=hS.obj i x hx
   exact hO1.ie (fun hl=>⟨hw _ (hO1.lt hl) (apart h hx hl),fun j hj=>by rw[hR _ _ (hO1.lt hl) (apart h hx hl)];exact hj⟩) (De _ _ h) hk
  ·exact hO
 ·obtain⟨x,hx,hlx⟩:=hi
  obtain⟨y,hy,hly⟩:=hj;rcases Dq hx with⟨h1,hx'⟩ | ⟨e1,e2⟩ <;> rcases Dq hy with⟨h2,hy'⟩ | ⟨e3,e4⟩
  ·rw[De _ _ h1,De _ _ h2] at e
   exact hS.inj i j ⟨x,hx',hlx⟩ ⟨y,hy',hly⟩ e
  ·subst e3 e4
   rw[De _ _ h1,Fb] at e;have hlt:=(hS.obj i x hx').lt hlx
   rcases F9 hly with⟨W8,hp⟩ | hp
   ·exact absurd (e.trans hp) (apart h1 hx' hlx W8)
   ·omega
  ·subst e1 e2
   rw[Fb,De _ _ h2] at e;have hlt:=(hS.obj j y hy').lt hly
   rcases F9 hlx with⟨W8,hp⟩ | hp
   ·exact absurd (e.symm.trans hp) (apart h2 hy' hly W8)
   ·omega
  ·rw[e1,e3]
 ·obtain⟨x,hx,hlx⟩:=hi
  rcases Dq hx with⟨h1,hx'⟩ | ⟨e1,e2⟩
  ·rw[De _ _ h1] at hs
   exact hS.free i ⟨x,hx',hlx⟩ hs
  ·subst e1 e2
   rw[Fb] at hs;rcases F9 hlx with⟨W8,hp⟩ | hp
   ·rw[hp] at hs;exact hS.free i ⟨o,ho,W8⟩ hs
   ·have:=hS.slt _ hs
    omega
def Tt(fo:Nat->FuncId)(B0:wg)(w:World)(R:Rd)(φ:Pl)(H:List ba)(r:Result Value)(v:AV)(H':List ba):Prop:=
 ∃ v' w' R' φ',r= .ok v' w'/\vc fo B0 w' R' φ' H'/\Sc fo (K R' φ' H') v v'/\(∀ a u,K R φ H a u->K R' φ' H' a u)/\oh B0 w w'
theorem Tt.same{fo:Nat->FuncId}{B0:wg}{w:World}{R:Rd}{φ:Pl}{H:List ba}{r:Result Value}{v:AV}(v':Value)(hS:vc fo B0 w R φ H)(hr:r= .ok v' w)(hv:Sc fo (K R φ H) v v'):
 Tt fo B0 w R φ H r v H:=⟨v',w,R,φ,hr,hS,hv,fun _ _ h=>h,oh.refl _ _⟩
section ops
variable {P:Program}{fo:Nat->FuncId}{B0:wg}{w:World}{R:Rd}{φ:Pl}{H:List ba}
theorem Li{w:World}{o:Obj}{b:Nat}(h:b < w.heap.size):(w.heap.push o)[b]? =w.heap[b]? :=by
 rw[Array.getElem?_push,taa (by omega)]
theorem sA(hB:B0<=w.heap.size)(hs:∀ k,B0.S k->k < w.heap.size)(o:Obj):oh B0 w {w with heap:=w.heap.push o}:=
 .iy ⟨rfl,rfl,rfl,by simp,fun k hk=>Li hk⟩ hB hs
theorem vc.tB(hS:vc fo B0 w R φ H){b:Nat}(hb:w.heap.size<=b)(o:Nat):R b o=none:=by
 cases h:R b o with
 |none=>rfl
 |some v=>have:=Em (hS.sub b o v h);omega
theorem FI{w:World}{ob:Obj}{b o:Nat}(h:b < w.heap.size):World.cell? {w with heap:=w.heap.push ob} ⟨b,o,none⟩=w.cell? ⟨b,o,none⟩:=by
 simp[World.cell?,Li h]
theorem dS(hS:vc fo B0 w R φ H){cells:List AV}{vs:List Value}(hc:mb fo (K R φ H) cells vs)(h1:cells.all AV.one=true)(ty:TypeId):
 Tt fo B0 w R φ H (.ok (.pointer (some ⟨w.heap.size,0,none⟩)) {w with heap:=w.heap.push (.cells ⟨vs⟩ ty)}) (.ptr H.length 0) (H++[.box cells]):=by
 have hk:=fun a v=>K.push (R:=R) (φ:=φ) (H:=H) (.box cells) (w.heap.size,0) a v
 refine⟨_,_,R,AM.Wm φ H.length (w.heap.size,0),rfl,?_,?_,hk,sA hS.low hS.slt _⟩
 ·refine hS.push (by simp) (fun b hb=>Li hb) (fun _ _ _=>rfl) (fun b o v h=> ?_) hk (fun _=>waa _) ?_
  ·have:=hS.sub b o v h
   rw[FI (Em this)];exact this
  ·refine⟨by rw[Fb];exact hS.low,by rw[Fb];exact hS.tB (waa _),h1,⟨vs⟩,?_,hc.mono hk⟩
   rw[Fb];exact⟨ty,(0,0),by simp,fun o _ h=>by omega⟩
 ·refine .atom _ _ ⟨by simp,rfl,fun c _=>by rw[Fb]⟩
end ops
end Go.AM
namespace Go.AM
open Go.RowKit
def cI(p:PV):Bool:=(AV.pv p).one
theorem CF{p:PV}(h:cI p=true):p.cells=[p]:=by
 cases p <;> simp_all [cI,AV.one,PV.cells]
theorem Hw(sz:Nat)(ag:Bool)(K7:ag=false->sz=1):∀ (n:Nat)(ps:List PV),ps.length=n * sz->(∀ p∈ps,cI p=true)->
 flat (chunk sz ag n ps)=ps/\(∀ e∈chunk sz ag n ps,e.cells.length=sz)/\(chunk sz ag n ps).length=n:=by
 intro n
 induction n with
 |zero=>intro ps hl _;simp at hl;subst hl;simp[chunk,flat]
 |succ n ih=>
  intro ps hl hp;obtain⟨i1,i2,i3⟩:=ih (ps.drop sz) (by simp[hl,Nat.add_mul]) (fun p h=>hp p (bac h));cases ag with
  |true=>
   have hc:(PV.agg (ps.take sz)).cells=ps.take sz:=rfl
   have hlen:(ps.take sz).length=sz:=by rw[Lab,hl,Nat.add_mul];omega
   refine⟨?_,?_,?_⟩
   ·simp only[chunk,if_true,flat,hc,i1,jac]
   ·intro e he
    simp only[chunk,if_true,bab] at he;rcases he with rfl | he
    ·rw[hc];exact hlen
    ·exact i2 e he
   ·simp[chunk,i3]
  |false=>
   have h1:=K7 rfl;subst h1;cases ps with
   |nil=>simp at hl
   |cons p ps=>
    have S9:=CF (hp p (by simp));refine⟨?_,?_,?_⟩
    ·simp only[jad,Aac] at i1
     simp[chunk,flat,S9,i1]
    ·intro e he
     simp only[chunk,Baa,if_false,List.headD_cons,bab] at he;rcases he with rfl | he
     ·rw[S9];rfl
     ·exact i2 e he
    ·simp only[jad,Aac] at i3
     simp[chunk,i3]
theorem uN{as:List AV}{ps:List PV}(h:Tc as=some ps)(ha:as.all AV.one=true):∀ p∈ps,cI p=true:=by
 have:=Tf h;subst this;intro p hp;have:=aab.1 ha (.pv p) (oab.2 ⟨p,hp,rfl⟩)
 exact this
def Xq(R:Rd)(nb:Nat)(f:Nat->Option Value):Rd:=fun b o=>if b=nb then f o else R b o
theorem OB{fo:Nat->FuncId}{B0:wg}{w:World}{R:Rd}{φ:Pl}{H:List ba}(hS:vc fo B0 w R φ H)(f:Nat->Option Value):Sub R (Xq R w.heap.size f):=by
 intro b o v h;have:=Em (hS.sub b o v h);unfold Xq;rw[taa (by omega)];exact h
theorem Rf{w w':World}{b o:Nat}(h:w'.heap[b]? =w.heap[b]?):w'.cell? ⟨b,o,none⟩=w.cell? ⟨b,o,none⟩:=by
 simp[World.cell?,h]
section fresh
variable {fo:Nat->FuncId}{B0:wg}{w w':World}{R:Rd}{φ:Pl}{H:List ba}
theorem zD(hS:vc fo B0 w R φ H){es:List PV}{vs rest:List Value}(hl:Ve R (flat es) vs)(h1:∀ v∈vs,v.oneCell'=true){sz cap:Nat}(h0:0 < sz)(c2:∀ e∈es,e.cells.length=sz)
 (K8:(vs++rest).length=cap * sz) {ty:TypeId} {fz:Nat×Nat} (hf:∀ o,o < (vs++rest).length->¬(fz.1<=o/\o < fz.2))
 (hheap:w'.heap=w.heap.push (.cells ⟨vs++rest⟩ ty fz)) (hos:w'.os=w.os) (htape:w'.tape=w.tape) (y8:w'.output=w.output):
 Tt fo B0 w R φ H (.ok (.slice (some ⟨w.heap.size,0,none⟩) es.length cap) w') (.pv (.lit sz es)) H/\
 Tt fo B0 w R φ H (.ok (.slice (some ⟨w.heap.size,0,none⟩) es.length cap) w') (.uq H.length false sz es) (H++[.tok sz es.length false]):=by
 have hn:vs.length=es.length * sz:=by rw[hl.length,yq c2]
 have B8:=hS.low
 have hbw:oh B0 w w':= .iy ⟨hos,htape,y8,by simp[hheap],fun k hk=>by rw[hheap];exact Li hk⟩ B8 hS.slt
 have hold':∀ b,b < w.heap.size->w'.heap[b]? =w.heap[b]? :=fun b hb=>by rw[hheap];exact Li hb
 have Gac:w'.heap[w.heap.size]? =some (.cells ⟨vs++rest⟩ ty fz):=by rw[hheap];simp
 have Hac:es.length<=cap:=by
  have:vs.length<=(vs++rest).length:=by simp
  rw[hn,K8] at this;exact Yac this h0
 have hblk:Nz w' w.heap.size ⟨vs++rest⟩:=⟨ty,fz,Gac,fun o ho=>hf o (by simpa using ho)⟩
 have hcell:∀ o,w'.cell? ⟨w.heap.size,o,none⟩=(vs++rest)[o]? :=fun o=>by rw[hblk.cell];simp
 have Gaa:w.heap.size<=w'.heap.size:=by simp[hheap]
 constructor
 ·have hsub:=OB hS (fun o=>(vs++rest)[o]?)
  have hk:=fun a v=>K.sub (φ:=φ) (H:=H) hsub a v
  refine⟨_,w',Xq R w.heap.size (fun o=>(vs++rest)[o]?),φ,rfl,?_,.atom _ _ ?_,hk,hbw⟩
  ·refine⟨sac hS.low Gaa,fun b o v h=> ?_,fun id o ho=> ?_,hS.inj,fun b o hb=>by have:=hS.low;unfold Xq;rw[taa (by omega)];exact hS.Dq b o hb,fun k hk=>eac (hS.slt k hk) Gaa,hS.free⟩
   ·unfold Xq at h
    split at h
    ·rename_i e;subst e;rw[hcell];exact h
    ·have:=hS.sub b o v h
     rw[Rf (hold' b (Em this))];exact this
   ·have hO:=hS.obj id o ho
    refine hO.ie (fun hlv=>⟨hold' _ (hO.lt hlv),fun j hj=> ?_⟩) rfl hk
    have:=hO.lt hlv
    unfold Xq;rw[taa (by omega)];exact hj
  ·show Ta _ _ _
   refine Ta.lit sz es w.heap.size 0 cap Hac c2 (Rg.Sn (hl.mono hsub) h1 fun i v hi=> ?_)
   have hlt:=getElem?_lt hi;simp[Xq,gaa hlt,hi]
 ·have hsub:=OB hS (fun o=>if o < es.length * sz then (vs++rest)[o]? else none)
  have hk:=fun a v h=>K.push (.tok sz es.length false) (w.heap.size,cap) a v (K.sub (φ:=φ) (H:=H) hsub a v h)
  have hPR:Ta (Xq R w.heap.size (fun o=>if o < es.length * sz then (vs++rest)[o]? else none)) (.lit sz es) (.slice (some ⟨w.heap.size,0,none⟩) es.length cap):=by
   refine Ta.lit sz es w.heap.size 0 cap Hac c2 (Rg.Sn (hl.mono hsub) h1 fun i v hi=> ?_)
   have hlt:=getElem?_lt hi;simp[Xq,gaa hlt,hi];omega
  refine⟨_,w',_,AM.Wm φ H.length (w.heap.size,cap),rfl,?_,.atom _ _ ?_,hk,hbw⟩
  ·refine hS.push Gaa hold' (fun b o hb=>by unfold Xq;rw[taa (by omega)]) (fun b o v h=> ?_) hk (fun _=>waa _) ?_
   ·unfold Xq at h
    split at h
    ·rename_i e;subst e;rw[hcell]
     dsimp only at h
     split at h
     ·exact h
     ·cases h
    ·have:=hS.sub b o v h
     rw[Rf (hold' b (Em this))];exact this
   ·refine⟨h0,(fun h=>by cases h),fun _=> ?_⟩
    rw[Fb];refine⟨B8,fun o ho=>by simp[Xq];omega,⟨vs++rest⟩,hblk,by simpa using K8,?_⟩;simp;omega
  ·refine⟨by simp,(fun h=>by cases h),fun _=>hPR,fun sz' n' nl' h=> ?_⟩
   simp at h;obtain⟨rfl,rfl,rfl⟩:=h;refine⟨by omega,fun _=>⟨rfl,rfl,fun _=> ?_⟩⟩;rw[Fb]
theorem XC(hS:vc fo B0 w R φ H){cells:List AV}{vs rest:List Value}(hc:mb fo (K R φ H) cells vs)(h1:cells.all AV.one=true){sz n cap:Nat}(h0:0 < sz)(hn:vs.length=n * sz)
 (K8:(vs++rest).length=cap * sz) {ag:Bool} (aX:ag=false->sz=1) {ty:TypeId} {fz:Nat×Nat} (hf:∀ o,o < (vs++rest).length->¬(fz.1<=o/\o < fz.2))
 (hheap:w'.heap=w.heap.push (.cells ⟨vs++rest⟩ ty fz)) (hos:w'.os=w.os) (htape:w'.tape=w.tape) (y8:w'.output=w.output)
 {hold:Zf} {v:AV} {H':List ba} (hfr:fresh H hold sz ag n cells=some (v,H')):
 Tt fo B0 w R φ H (.ok (.slice (some ⟨w.heap.size,0,none⟩) n cap) w') v H':=by
 have B8:=hS.low
 have hbw:oh B0 w w':= .iy ⟨hos,htape,y8,by simp[hheap],fun k hk=>by rw[hheap];exact Li hk⟩ B8 hS.slt
 have hold':∀ b,b < w.heap.size->w'.heap[b]? =w.heap[b]? :=fun b hb=>by rw[hheap];exact Li hb
 have Gac:w'.heap[w.heap.size]? =some (.cells ⟨vs++rest⟩ ty fz):=by rw[hheap];simp
 have Hac:n<=cap:=by
  have:vs.length<=(vs++rest).length:=by simp
  rw[hn,K8] at this;exact Yac this h0
 have hlc:=hc.length
 have hblk:Nz w' w.heap.size ⟨vs++rest⟩:=⟨ty,fz,Gac,fun o ho=>hf o (by simpa using ho)⟩
 have hcell:∀ o,w'.cell? ⟨w.heap.size,o,none⟩=(vs++rest)[o]? :=fun o=>by rw[hblk.cell];simp
 have Gaa:w.heap.size<=w'.heap.size:=by simp[hheap]
 cases hold with
 |lit=>
  simp only[fresh,faa,vaa] at hfr;obtain⟨ps,hps,rfl,rfl⟩:=hfr;have hl:=Rk hps hc;have V7:=hl.length
  obtain⟨c1,c2,c3⟩:=Hw sz ag aX n ps (by omega) (uN hps h1);have:=(zD (fo:=fo) (B0:=B0) hS (es:=chunk sz ag n ps) (by rw[c1];exact hl) (Wp hc h1) h0 c2 K8 hf hheap hos htape y8).1
  rwa [c3] at this
 |uq=>
  simp only[fresh,faa,vaa] at hfr;obtain⟨ps,hps,rfl,rfl⟩:=hfr;have hl:=Rk hps hc;have V7:=hl.length
  obtain⟨c1,c2,c3⟩:=Hw sz ag aX n ps (by omega) (uN hps h1);have:=(zD (fo:=fo) (B0:=B0) hS (es:=chunk sz ag n ps) (by rw[c1];exact hl) (Wp hc h1) h0 c2 K8 hf hheap hos htape y8).2
  rwa [c3] at this
 |own=>
  simp only[fresh,eaa,vaa] at hfr;obtain⟨rfl,rfl⟩:=hfr;have hk:=fun a v h=>K.push (R:=R) (φ:=φ) (H:=H) (.seq sz ag cells 0 false) (w.heap.size,cap) a v h
  refine⟨_,w',R,AM.Wm φ H.length (w.heap.size,cap),rfl,?_,.atom _ _ ?_,hk,hbw⟩
  ·refine hS.push Gaa hold' (fun _ _ _=>rfl) (fun b o v h=> ?_) hk (fun _=>waa _) ?_
   ·have:=hS.sub b o v h
    rw[Rf (hold' b (Em this))];exact this
   ·refine⟨h0,Iac _,(fun h=>by cases h),h1,fun _=> ?_⟩
    rw[Fb];refine⟨B8,hS.tB (waa _),⟨vs++rest⟩,hblk,by simpa using K8,by simp;omega,?_⟩;have:(vs++rest).take cells.length=vs:=by rw[<- hlc];simp
    simp only[this];exact hc.mono hk
  ·refine⟨by simp,rfl,fun sz' ag' c' o8 nl' h=> ?_⟩
   simp at h;obtain⟨rfl,rfl,rfl,rfl,rfl⟩:=h;refine⟨by omega,fun _=> ?_⟩;refine⟨(fun h=>by cases h),fun _=> .inr ⟨w.heap.size,0,cap,rfl,fun _=>by rw[Fb];exact⟨rfl,rfl,rfl⟩,fun ps _=> .inl (by rw[Fb];exact⟨rfl,rfl⟩)⟩⟩
end fresh
end Go.AM
namespace Go.AM
open Go.RowKit
section loads
variable {P:Program}{fo:Nat->FuncId}{B0:wg}{w:World}{R:Rd}{φ:Pl}{H:List ba}
theorem zz{cells:List AV}{vs:List Value}(hc:mb fo (K R φ H) cells vs){t:TypeId}{ag:Bool}{n b off:Nat}(ha:Hm P t=some ag)(hn:ag=true->Ud P t=some n)
 (hr:∀ j v,vs[j]? =some v->w.cell? ⟨b,j,none⟩=some v) {y:AV} (hp:Lh ag n cells off=some y):
 ∃ v,(loadVar t ⟨b,off,none⟩).run P w= .ok v w/\Sc fo (K R φ H) y v:=by
 cases ag with
 |true=>
  simp only[Lh,if_true] at hp
  split at hp
  ·injection hp with hp
   subst hp;rename_i hle;have h2:=(hc.drop off).take n
   have hl:=hc.length
   refine⟨_,eE (vs:=(vs.drop off).take n) w ha (hn rfl) (by simp;omega) (fun j v hj=>hr _ _ ?_),Lz h2⟩;rw[Rab] at hj
   split at hj
   ·rw[uae] at hj;exact hj
   ·cases hj
  ·cases hp
 |false=>
  simp only[Lh,Baa,if_false] at hp;obtain⟨v,hv,h2⟩:=hc.get hp
  exact⟨v,MD w ha (hr _ _ hv),h2⟩
theorem HI(hS:vc fo B0 w R φ H){row:List PV}{b o:Nat}(J7:Rg R row b o){t:TypeId}{ag:Bool}{n off:Nat}(ha:Hm P t=some ag)(hn:ag=true->Ud P t=some n)
 {y:PV} (hp:Im ag n row off=some y):∃ v,(loadVar t ⟨b,o+off,none⟩).run P w= .ok v w/\Ta R y v:=by
 cases ag with
 |true=>
  simp only[Im,if_true] at hp
  split at hp
  ·injection hp with hp
   subst hp;rename_i hle;obtain⟨vs,h2,_,h3⟩:=((J7.drop off).take n).list
   have hl:=h2.length
   refine⟨_,eE (vs:=vs) w ha (hn rfl) (by rw[hl];simp;omega) (fun j v hj=>hS.sub _ _ _ (h3 j v hj)),.agg _ _ h2⟩
  ·cases hp
 |false=>
  simp only[Im,Baa,if_false] at hp;obtain⟨v,hv,h2⟩:=J7.get hp
  exact⟨v,MD w ha (hS.sub _ _ _ hv),h2⟩
theorem lN(hS:vc fo B0 w R φ H){x:AV}{vx:Value}(hx:Sc fo (K R φ H) x vx){t:TypeId}{ag:Bool}{n:Nat}(ha:Hm P t=some ag)(hn:ag=true->Ud P t=some n)
 {y:AV} (hl:pa H ag n x=some y):∃ v,(Instr.loadAt t vx).run P w= .ok v w/\Sc fo (K R φ H) y v:=by
 have go:∀ (a:Addr),(Instr.loadAt t (.pointer (some a))).run P w=(loadVar t a).run P w:=by intro a;simp[Instr.loadAt,Instr.sureAddr]
 cases hx with
 |atom x vx hx=>
  cases x with
  |pv p=>
   cases p with
   |rp row off=>
    have hx:Ta R (.rp row off) vx:=hx;simp only[pa,faa] at hl;obtain⟨q,hq,rfl⟩:=hl;cases hx with
    |rp _ _ b o J7=>obtain⟨v,h1,h2⟩:=HI hS J7 ha hn hq;exact⟨v,by rw[go];exact h1,.atom _ _ h2⟩
   |_=>simp[pa] at hl
  |ptr id off=>
   simp only[pa] at hl
   split at hl
   ·rename_i c hc
    obtain⟨h1,h2,_,arr,h3,h4⟩:=hS.obj id _ hc
    rw[hx.2.2 c hc];obtain⟨v,k1,k2⟩:=zz (w:=w) (b:=(φ id).1) h4 ha hn (fun j v hj=>by rw[h3.cell];simpa using hj) hl;exact⟨v,by rw[go];exact k1,k2⟩
   ·cases hl
  |Ec id m off=>
   simp only[pa] at hl
   split at hl
   ·rename_i sz ag' c fl nl hc
    obtain⟨k0,kk⟩:=hx.2.2 _ _ _ _ _ hc
    obtain⟨h0,h1,h2,hao,h3⟩:=hS.obj id _ hc
    split at hl
    ·rename_i hm
     rw[(kk (by omega)).1 hm];cases nl with
     |true=>
      have:=h2 rfl;subst this;obtain⟨v,k1,k2⟩:=zz (w:=w) (b:=(φ id).1) (vs:=[]) (fo:=fo) (R:=R) (φ:=φ) (H:=H) .nil ha hn (fun j v hj=>by simp at hj) hl
      exact⟨v,by rw[go];exact k1,k2⟩
     |false=>
      obtain⟨k1,k2,arr,k3,k4,k5,k6⟩:=h3 rfl;obtain⟨v,q1,q2⟩:=zz (w:=w) (b:=(φ id).1) k6 ha hn (fun j v hj=>by
       rw[k3.cell];rw[Rab] at hj
       split at hj
       ·simpa using hj
       ·cases hj) hl
      exact⟨v,by rw[go];exact q1,q2⟩
    ·split at hl
     ·rename_i hm hf
      obtain⟨hf,hm0⟩:=hf;simp only[uaa,faa] at hl;obtain⟨ps,hps,q,hq,rfl⟩:=hl;have Y7:nl=false:=by
       cases nl with
       |false=>rfl
       |true=>have:=h2 rfl;subst this;simp only[Dab] at k0 hm;omega
      subst Y7;obtain⟨k1,k2,arr,k3,k4,k5,k6⟩:=h3 rfl;have hcm:(c.take m).length=ps.length:=by have:=Tf hps;rw[this];simp
      ·rcases (kk hf).2 ps hps hm0 with rfl | ⟨b,o,rfl,hr⟩
       ·have h7:=Rk hps (k6.take m)
        have hA:mb fo (K R φ H) (ps.map .pv) ((arr.toList.take c.length).take m):=mb.RG h7
        have hq':Lh ag n (ps.map .pv) off=some (.pv q):=by
         unfold Im at hq;unfold Lh;cases ag with
         |true=>
          simp only[if_true] at hq ⊢
          split at hq
          ·injection hq with hq;subst hq
           rw[if_pos (by simpa using ‹off+n<=ps.length›)];simp[gv,<-List.map_drop,<-List.map_take,qK]
          ·cases hq
         |false=>simp only[Baa,if_false] at hq ⊢;simp[hq]
        obtain⟨v,q1,q2⟩:=zz (w:=w) (b:=(φ id).1) hA ha hn (fun j v hj=>by
         rw[k3.cell];rw[Rab] at hj
         split at hj
         ·rw[Rab] at hj
          split at hj
          ·simpa using hj
          ·cases hj
         ·cases hj) hq'
        exact⟨v,by rw[go];exact q1,q2⟩
       ·obtain⟨v,q1,q2⟩:=HI hS hr ha hn hq
        exact⟨v,by rw[go];exact q1,.atom _ _ q2⟩
     ·cases hl
   ·cases hl
  |_=>simp[pa] at hl
 |_=>simp[pa] at hl
theorem K.sS{id:Nat}{c c':List AV}(hc:H[id]? =some (.box c))(a:AV)(v:Value)(h:K R φ H a v):K R (Wm φ id (φ id)) (H.set id (.box c')) a v:=by
 have hφ:Wm φ id (φ id)=φ:=by
  funext i
  unfold Wm
  split
  ·rename_i e;rw[e]
  ·rfl
 rw[hφ];have G7:=getElem?_lt hc;have Dq:∀ {i:Nat}{x:ba},(H.set id (.box c'))[i]? =some x->(i≠id/\H[i]? =some x)\/(i=id/\x= .box c'):=by
  intro i x hx
  by_cases h:i=id
  ·subst h;rw[Qaa G7] at hx;injection hx with hx;exact .inr ⟨rfl,hx.symm⟩
  ·rw[Jaa (rac h)] at hx;exact .inl ⟨h,hx⟩
 cases a with
 |pv p=>exact h
 |ptr i off=>
  refine⟨by simpa using h.1,h.2.1,fun c1 h1=> ?_⟩;rcases Dq h1 with⟨_,h2⟩ | ⟨rfl,_⟩
  ·exact h.2.2 _ h2
  ·exact h.2.2 _ hc
 |Ec i n off=>
  refine⟨by simpa using h.1,h.2.1,fun sz ag c1 fl nl h1=> ?_⟩;rcases Dq h1 with⟨_,h2⟩ | ⟨rfl,h2⟩
  ·exact h.2.2 _ _ _ _ _ h2
  ·cases h2
 |uq i nl sz es=>
  refine⟨by simpa using h.1,h.2.1,h.2.2.1,fun sz' n nl' h1=> ?_⟩;rcases Dq h1 with⟨_,h2⟩ | ⟨rfl,h2⟩
  ·exact h.2.2.2 _ _ _ h2
  ·cases h2
 |own i len=>
  refine⟨by simpa using h.1,h.2.1,fun sz ag c1 fl nl h1=> ?_⟩;rcases Dq h1 with⟨_,h2⟩ | ⟨rfl,h2⟩
  ·exact h.2.2 _ _ _ _ _ h2
  ·cases h2
 |mp i=>
  refine⟨by simpa using h.1,h.2.1,fun es h1=> ?_⟩;rcases Dq h1 with⟨_,h2⟩ | ⟨rfl,h2⟩
  ·exact h.2.2 _ h2
  ·cases h2
 |Ol ix cs=>exact h.elim
 |agg cs=>exact h.elim
 |mc cs=>exact h.elim
 |undef=>exact h.elim
theorem K.SR{id:Nat}{sz:Nat}{ag ag':Bool}{c c':List AV}{fl:Nat}{nl:Bool}(hc:H[id]? =some (.seq sz ag c fl nl))(hfl:fl<=c.length)(hlen:c'.length=c.length)(a:AV)(v:Value)(h:K R φ H a v):
 K R (Wm φ id (φ id)) (H.set id (.seq sz ag' c' c.length nl)) a v:=by
 have hφ:Wm φ id (φ id)=φ:=by
  funext i
  unfold Wm
  split
  ·rename_i e;rw[e]
  ·rfl
 rw[hφ];have G7:=getElem?_lt hc;have Dq:∀ {i:Nat}{x:ba},(H.set id (.seq sz ag' c' c.length nl))[i]? =some x->(i≠id/\H[i]? =some x)\/(i=id/\x= .seq sz ag' c' c.length nl):=by
  intro i x hx
  by_cases h:i=id
  ·subst h;rw[Qaa G7] at hx;injection hx with hx;exact .inr ⟨rfl,hx.symm⟩
  ·rw[Jaa (rac h)] at hx;exact .inl ⟨h,hx⟩
 cases a with
 |pv p=>exact h
 |ptr i off=>
  refine⟨by simpa using h.1,h.2.1,fun c1 h1=> ?_⟩;rcases Dq h1 with⟨_,h2⟩ | ⟨rfl,h2⟩
  ·exact h.2.2 _ h2
  ·cases h2
 |Ec i n off=>
  refine⟨by simpa using h.1,h.2.1,fun sz1 ag1 c1 fl1 b9 h1=> ?_⟩;rcases Dq h1 with⟨_,h2⟩ | ⟨rfl,h2⟩
  ·exact h.2.2 _ _ _ _ _ h2
  ·injection h2 with e1 e2 e3 e4 e5
   subst e1 e2 e3 e4 e5;obtain⟨k0,k⟩:=h.2.2 _ _ _ _ _ hc
   refine⟨by omega,fun e=> ?_⟩;have hv:=(k (by omega)).1 (by omega)
   exact⟨fun _=>hv,fun _ _ _=> .inl hv⟩
 |uq i nl sz es=>
  refine⟨by simpa using h.1,h.2.1,h.2.2.1,fun sz' n nl' h1=> ?_⟩;rcases Dq h1 with⟨_,h2⟩ | ⟨rfl,h2⟩
  ·exact h.2.2.2 _ _ _ h2
  ·cases h2
 |own i len=>
  refine⟨by simpa using h.1,h.2.1,fun sz1 ag1 c1 fl1 b9 h1=> ?_⟩;rcases Dq h1 with⟨_,h2⟩ | ⟨rfl,h2⟩
  ·exact h.2.2 _ _ _ _ _ h2
  ·injection h2 with e1 e2 e3 e4 e5
   subst e1 e2 e3 e4 e5;obtain⟨k0,k⟩:=h.2.2 _ _ _ _ _ hc
   refine⟨by omega,fun Wam=> ?_⟩;obtain⟨k1,k2⟩:=k (by omega);refine⟨k1,fun hn=> ?_⟩;rcases k2 hn with⟨q1,q2,q3⟩ | ⟨b,o,cap,q1,q2,q3⟩
   ·refine .inl ⟨q1,fun e=>q2 ?_,q3⟩
    rw[e] at hlen;exact yaa hlen.symm
   ·exact .inr ⟨b,o,cap,q1,fun e=>q2 (by omega),fun ps _=> .inl ⟨(q2 (by omega)).1,(q2 (by omega)).2.1⟩⟩
 |mp i=>
  refine⟨by simpa using h.1,h.2.1,fun es h1=> ?_⟩;rcases Dq h1 with⟨_,h2⟩ | ⟨rfl,h2⟩
  ·exact h.2.2 _ h2
  ·cases h2
 |Ol ix cs=>exact h.elim
 |agg cs=>exact h.elim
 |mc cs=>exact h.elim
 |undef=>exact h.elim
theorem Am{b:Nat}{arr:List Value}{ty:TypeId}{fz:Nat×Nat}{k:Nat}(h:k≠b):(Ks w b arr ty fz).heap[k]? =w.heap[k]? :=by
 simp only[Ks];rw[Array.getElem?_setIfInBounds_ne (rac h)]
theorem Jr{b:Nat}{arr:List Value}{ty:TypeId}{fz:Nat×Nat}(h:b < w.heap.size):(Ks w b arr ty fz).heap[b]? =some (.cells ⟨arr⟩ ty fz):=by
 simp[Ks,h]
theorem Wv{b:Nat}{arr:List Value}{ty:TypeId}{fz:Nat×Nat}(h:B0<=b){maj:Array Value}{ty':TypeId}{fz':Nat×Nat}(h0:w.heap[b]? =some (.cells maj ty' fz'))(hs:∀ k,B0.S k->k < w.heap.size)(hf:¬B0.S b):oh B0 w (Ks w b arr ty fz):=
 .oL h0 rfl rfl rfl rfl (by simp[Ks]) h hs hf fun k _ I7=>Am I7
theorem VG(vs:List AV):∀ (cs:List AV)(o:Nat),cs.all AV.one=true->vs.all AV.one=true->(fa cs o vs).all AV.one=true:=by
 induction vs with
 |nil=>intro cs o h _;exact h
 |cons v vs ih=>
  intro cs o h h2;simp only[zac,daa] at h2;refine ih _ _ ?_ h2.2
  rw[aab] at h ⊢;intro x hx;rcases Nab hx with hx | rfl
  ·exact h x hx
  ·exact h2.1
theorem DS(hS:vc fo B0 w R φ H){p x:AV}{vp vx:Value}(hp:Sc fo (K R φ H) p vp)(hx:Sc fo (K R φ H) x vx){t:TypeId}{n:Nat}(hn:Ud P t=some n)
 {H':List ba} (hl:Ha H n p x=some H'):∃ w' φ',(Instr.storeAt t vp vx).run P w= .ok () w'/\vc fo B0 w' R φ' H'/\(∀ a u,K R φ H a u->K R φ' H' a u)/\oh B0 w w':=by
 have go:∀ (a:Addr),(Instr.storeAt t (.pointer (some a)) vx).run P w=(storeVar t a vx).run P w:=by intro a;simp[Instr.storeAt,Instr.sureAddr]
 unfold Ha at hl
 split at hl
 case isFalse=>cases hl
 rename_i V8;obtain⟨O7,R7⟩:=V8;have hcr:=Cz hx R7;have haa:vx.cells.toList.length=n:=by rw[hcr.length];exact O7
 have sae:=Wp hcr R7;cases hp with
 |atom p vp hp=>
  cases p with
  |ptr id off=>
   dsimp only at hl
   split at hl
   ·rename_i c hc
    split at hl
    ·rename_i hle
     injection hl with hl
     subst hl;obtain⟨h1,h2,hao,arr,⟨ty,fz,h3,G9⟩,h4⟩:=hS.obj id _ hc
     have G7:=getElem?_lt hc;have hlen:=h4.length
     rw[hp.2.2 c hc,go];have W7:=Zz (P:=P) (o:=off) (v:=vx) w hn haa (b:=(φ id).1) (arr:=arr.toList) (ty:=ty) (fz:=fz) h3 (by simpa using G9) (by rw[hlen];exact hle) sae;have hlt:(φ id).1 < w.heap.size:=Nz.lt ⟨ty,fz,h3,G9⟩
     have hk:=fun a v=>K.sS (R:=R) (φ:=φ) (c':=fa c off x.cells) hc a v
     refine⟨_,Wm φ id (φ id),W7,?_,hk,Wv h1 h3 hS.slt (hS.free id ⟨_,hc,trivial⟩)⟩;refine hS.Wm (w':=Ks w (φ id).1 (fa arr.toList off vx.cells.toList) ty fz) hc (by simp[Ks]) (fun b hb I7=>Am (I7 trivial)) (fun _ _ _ _=>rfl) (fun b o v hv=> ?_) hk (fun _=> .inl ⟨trivial,rfl⟩) ?_
     ·rw[Rf (Am (fun e=>by subst e;rw[h2] at hv;cases hv))];exact hS.sub b o v hv
     ·refine⟨by rw[Fb];exact h1,by rw[Fb];exact h2,VG _ _ _ hao R7,⟨fa arr.toList off vx.cells.toList⟩,?_,?_⟩
      ·rw[Fb]
       exact⟨ty,fz,Jr hlt,fun o ho=>G9 o (by simpa[Xc] using ho)⟩
      ·exact (h4.mono hk).fa off (hcr.mono hk)
    ·cases hl
   ·cases hl
  |Ec id m off=>
   dsimp only at hl
   split at hl
   ·rename_i sz ag c fl nl hc
    split at hl
    ·rename_i hle
     injection hl with hl
     subst hl;obtain⟨hm,hle⟩:=hle;obtain⟨h0,h1,h2,hao,h3⟩:=hS.obj id _ hc
     rw[((hp.2.2 _ _ c _ _ hc).2 (by omega)).1 hm,go];subst hm;have hk:=fun a v=>K.SR (R:=R) (φ:=φ) (ag':=ag) (c':=fa c off x.cells) hc h1 (Xc _ _ _) a v
     cases nl with
     |true=>
      have hce:=h2 rfl;subst hce;have hn0:n=0:=by simp at hle;omega
      subst hn0;have hvx:vx.cells.toList=[]:=yaa haa
      have hxc:x.cells=[]:=yaa O7
      refine⟨w,Wm φ id (φ id),?_,?_,hk,oh.refl _ _⟩
      ·have:vx.cells.size=0:=by simpa using haa
       simp[storeVar,zc hn,this,hvx,storeCells]
      ·refine hS.Wm (w':=w) hc (waa _) (fun _ _ _=>rfl) (fun _ _ _ _=>rfl) hS.sub hk (fun h=>by cases h) ?_
       exact⟨h0,by simp[Xc],(fun _=>by rw[hxc];rfl),(by rw[hxc];rfl),fun h=>by cases h⟩
     |false=>
      obtain⟨k1,k2,arr,⟨ty,fz,k3,G9⟩,k4,k5,k6⟩:=h3 rfl;have W7:=Zz (P:=P) (o:=off) (v:=vx) w hn haa (b:=(φ id).1) (arr:=arr.toList) (ty:=ty) (fz:=fz) k3 (by simpa using G9) (by simp;omega) sae;have hlt:(φ id).1 < w.heap.size:=Nz.lt ⟨ty,fz,k3,G9⟩
      refine⟨_,Wm φ id (φ id),W7,?_,hk,Wv k1 k3 hS.slt (hS.free id ⟨_,hc,rfl⟩)⟩;refine hS.Wm (w':=Ks w (φ id).1 (fa arr.toList off vx.cells.toList) ty fz) hc (by simp[Ks]) (fun b hb I7=>Am (I7 rfl)) (fun _ _ _ _=>rfl) (fun b o v hv=> ?_) hk (fun _=> .inl ⟨rfl,rfl⟩) ?_
      ·rw[Rf (Am (fun e=>by subst e;rw[k2] at hv;cases hv))];exact hS.sub b o v hv
      ·refine⟨h0,by rw[Xc];exact waa _,(fun h=>by cases h),VG _ _ _ hao R7,fun _=> ?_⟩
       rw[Fb];refine⟨k1,k2,⟨fa arr.toList off vx.cells.toList⟩,⟨ty,fz,Jr hlt,fun o ho=>G9 o (by simpa[Xc] using ho)⟩,by simpa[Xc] using k4,by simpa[Xc] using k5,?_⟩;have hq:=(k6.mono hk).fa off (hcr.mono hk)
       have:(fa arr.toList off vx.cells.toList).take (fa c off x.cells).length=fa (arr.toList.take c.length) off vx.cells.toList:=by rw[Xc];exact cO _ _ _ _ (by omega)
       dsimp only;rw[this];exact hq
    ·cases hl
   ·cases hl
  |_=>simp at hl
 |_=>simp at hl
end loads
end Go.AM
namespace Go.AM
open Go.RowKit
def wd(w:World)(d:Nat):World:={w with drawn:=d}
structure Src(P:Program)(w:World)(vx:Value)(sz n:Nat)(news:List Value):Prop where
 len:∀ d,(Builtin.lenOf vx).run P (wd w d)= .ok n (wd w d)
 cells:∀ d,(Builtin.firstCells sz n vx).run P (wd w d)= .ok ⟨news⟩ (wd w d)
 num:news.length=n * sz
 one:∀ v∈news,v.oneCell'=true
section append
variable {P:Program}{fo:Nat->FuncId}{B0:wg}{w:World}{R:Rd}{φ:Pl}{H:List ba}
theorem F1(d b o:Nat):(wd w d).cell? ⟨b,o,none⟩=w.cell? ⟨b,o,none⟩:=rfl
theorem Xl{b o:Nat}{vs:List Value}(hc:∀ j v,vs[j]? =some v->w.cell? ⟨b,o+j,none⟩=some v){n:Nat}(hn:vs.length=n):(loadCells ⟨b,o,none⟩ n).run P w= .ok ⟨vs⟩ w:=by
 have:=run_loadCells_list (P:=P) w ⟨b,o,none⟩ vs (fun j v hv=>by rw[Pn];exact hc j v hv);rw[hn] at this;simpa using this
theorem Src.slice{b o n cap sz:Nat}{vs:List Value}(hc:∀ j v,vs[j]? =some v->w.cell? ⟨b,o+j,none⟩=some v)(hn:vs.length=n * sz)(h1:∀ v∈vs,v.oneCell'=true):
 Src P w (.slice (some ⟨b,o,none⟩) n cap) sz n vs:=
 ⟨fun d=>by simp[Builtin.lenOf],fun d=>by
  show (loadCells _ _).run P _=_
  exact Xl (w:=wd w d) hc hn,hn,h1⟩
theorem Src.nil(sz:Nat):Src P w (.slice none 0 0) sz 0 []:=
 ⟨fun d=>by simp[Builtin.lenOf],fun d=>by simp[Builtin.firstCells],by simp,by simp⟩
theorem Src.str(s:ByteArray):Src P w (.string s) 1 s.size (s.data.toList.map fun b=> .int .u8 b.toNat):=by
 refine⟨fun d=>by simp[Builtin.lenOf],fun d=> ?_,by rw[paa,zad,Nat.mul_one];rfl,?_⟩
 ·simp only[Builtin.firstCells,Sem.run_pure]
  congr 1
  apply Qac;simp
 ·intro v hv
  simp only[oab] at hv;obtain⟨b,_,rfl⟩:=hv;rfl
theorem run_append_room{t tx ty e:TypeId}{dx:TypeDesc}{b n0 cap sz n:Nat}{arr news:List Value}{et:TypeId}{fz:Nat×Nat}{vx:Value}(hu:P.underlying t=some (.slice e))(hux:P.underlying tx=some dx)
 (hdx:dx= .slice e\/dx= .string) (K7:Ud P e=some sz) (hs:Src P w vx sz n news) (hb:w.heap[b]? =some (.cells ⟨arr⟩ et fz)) (hf:∀ j,j < arr.length->¬(fz.1<=j/\j < fz.2)) (iaa:arr.length=cap * sz)
 (Q8:n0+n<=cap):(Builtin.append_ #[t,tx] ty #[.slice (some ⟨b,0,none⟩) n0 cap,vx]).run P w= .ok (.slice (some ⟨b,0,none⟩) (n0+n) cap) (Ks w b (fa arr (n0 * sz) news) et fz):=by
 have h1:=hs.len w.drawn
 have h2:=hs.cells w.drawn
 rw[show wd w w.drawn=w from rfl] at h1 h2;have hle:n0 * sz+0+news.length<=arr.length:=by rw[hs.num,iaa];have:=wac sz Q8;rw[Nat.add_mul] at this;omega
 have h3:=Vq (P:=P) (b:=b) (n0 * sz) news 0 arr w hb hf hle hs.one
 rcases hdx with rfl | rfl <;>
  simp[Builtin.append_,run_underlying hu,run_underlying hux,zc K7,h1,h2,Q8,Pn,h3]
theorem run_append_nil{t tx ty e:TypeId}{dx:TypeDesc}{sz:Nat}{vx:Value}(hu:P.underlying t=some (.slice e))(hux:P.underlying tx=some dx)
 (hdx:dx= .slice e\/dx= .string) (K7:Ud P e=some sz) (hs:Src P w vx sz 0 []):(Builtin.append_ #[t,tx] ty #[.slice none 0 0,vx]).run P w= .ok (.slice none 0 0) w:=by
 have h1:=hs.len w.drawn
 have h2:=hs.cells w.drawn
 rw[show wd w w.drawn=w from rfl] at h1 h2;rcases hdx with rfl | rfl <;>
  simp[Builtin.append_,run_underlying hu,run_underlying hux,zc K7,h1,h2]
def OR(P:Program)(e:TypeId)(sz:Nat):Bool:=
 match P.info? e with
 |some i=>match i.zero with
  |some z=>z.cells.size==sz
  |none=>false
 |none=>false
theorem run_append_grow{t tx ty e:TypeId}{dx:TypeDesc}{n0 cap sz n bytes:Nat}{olds news:List Value}{base:Option Addr}{vx:Value}(hu:P.underlying t=some (.slice e))(hux:P.underlying tx=some dx)
 (hdx:dx= .slice e\/dx= .string) (K7:Ud P e=some sz) (hby:Sq P e=some bytes) (hb0:0 < bytes) (hz:OR P e sz=true) (hs:Src P w vx sz n news)
 (ho:∀ d,(Builtin.firstCells sz n0 (.slice base n0 cap)).run P (wd w d)= .ok ⟨olds⟩ (wd w d)) (Q8:cap < n0+n) (rK:(n0+n) * bytes<=140737488355328):
 ∃ dab rest w',(Builtin.append_ #[t,tx] ty #[.slice base n0 cap,vx]).run P w= .ok (.slice (some ⟨w.heap.size,0,none⟩) (n0+n) dab) w'/\n0+n<=dab/\rest.length=(dab - (n0+n)) * sz/\
  w'.heap=w.heap.push (.cells ⟨olds++news++rest⟩ e)/\w'.os=w.os/\w'.tape=w.tape/\w'.output=w.output:=by
 have h1:=hs.len w.drawn
 rw[show wd w w.drawn=w from rfl] at h1;unfold OR at hz;unfold Sq at hby;cases hi:P.info? e with
 |none=>simp[hi] at hz
 |some i=>
  simp only[hi] at hz;cases hzz:i.zero with
  |none=>simp[hzz] at hz
  |some z=>
   simp only[hzz,beq_iff_eq] at hz;simp only[hi,Kaa,eaa] at hby;have Yam:¬cap>=n0+n:=by omega
   have hle:=nextslicecap_le Q8;have H8:¬(Builtin.nextslicecap (n0+n) cap * i.bytes > 2 ^ 48):=by rw[hby];have:=wac bytes hle;rw[Nat.mul_assoc] at this;omega
   have s8:¬i.bytes=0:=by omega
   have V8:¬(((n0+n:Nat):Int) > IntKind.i64.max/\(false=true\/i.bytes=0)):=by
    rintro⟨_,h | h⟩
    ·cases h
    ·exact s8 h
   have h2:=hs.cells (w.drawn+1)
   have h3:=ho (w.drawn+1);have xaa:(Question.appendCap (n0+n) cap e).forced=false:=rfl
   have hzv:∀ d,(zeroValue e).run P (wd w d)= .ok z (wd w d):=fun d=>by simp[zeroValue,run_typeInfo (wd w d) hi,hzz]
   have hti:∀ d,(typeInfo e).run P (wd w d)= .ok i (wd w d):=fun d=>run_typeInfo (wd w d) hi
   have hti0:(typeInfo e).run P w= .ok i w:=run_typeInfo w hi
   have hch:(choose (.appendCap (n0+n) cap e)).run P w= .ok ((Question.appendCap (n0+n) cap e).cut (w.tape w.drawn (.appendCap (n0+n) cap e))) (wd w (w.drawn+1)):=by simp[xaa];rfl
   have K8:n0+n<=(Question.appendCap (n0+n) cap e).cut (w.tape w.drawn (.appendCap (n0+n) cap e)):=by simp only[Question.cut];omega
   generalize (Question.appendCap (n0+n) cap e).cut (w.tape w.drawn (.appendCap (n0+n) cap e))=C at hch K8
   have jaf:¬n0+n<=cap:=by omega
   have C8:(if ((n0+n:Nat):Int) > IntKind.i64.max/\(false=true\/i.bytes=0) then (runtimePanic (.error "growslice: len out of range"):Sem PUnit) else pure PUnit.unit)=pure PUnit.unit:=taa V8
   refine⟨C,(Builtin.zeroCells z.cells (C - (n0+n))).toList,{wd w (w.drawn+1) with heap:=w.heap.push (.cells ⟨olds++news++(Builtin.zeroCells z.cells (C - (n0+n))).toList⟩ e)},?_,K8,?_,rfl,rfl,rfl,rfl⟩
   ·have iaa:(⟨olds⟩:Array Value)++(⟨news⟩:Array Value)++Builtin.zeroCells z.cells (C - (n0+n))=⟨olds++news++(Builtin.zeroCells z.cells (C - (n0+n))).toList⟩:=by
     apply Qac;simp
    have Gad:¬(IntKind.i64.max < ((n0+n:Nat):Int)/\i.bytes=0):=fun h=>s8 h.2
    rcases hdx with rfl | rfl <;>
     simp only[Builtin.append_,List.getElem?_toArray,jab,mab,Sem.run_bind,run_underlying hu,run_underlying hux,Result.andThen_ok,zc K7,Sem.run_pure,Baa,if_false,h1,jaf,Sem.run_ite,
      hti0,H8,s8,hch,h2,h3,hti,hzv,run_askRoom,false_or,and_false,gt_iff_lt,newRow,run_newObj,iaa,Bool.not_false,if_true] <;> rfl
   ·simp[size_zeroCells,hz]
end append
end Go.AM
namespace Go.AM
open Go.RowKit
section tok
variable {P:Program}{fo:Nat->FuncId}{B0:wg}{w:World}{R:Rd}{φ:Pl}{H:List ba}
theorem K.gR{id sz n n':Nat}{nl nl':Bool}{p:Nat×Nat}(hc:H[id]? =some (.tok sz n nl))(hn:n < n'\/(n=n'/\nl'=nl/\p=φ id))(a:AV)(v:Value)(h:K R φ H a v):
 K R (Wm φ id p) (H.set id (.tok sz n' nl')) a v:=by
 have G7:=getElem?_lt hc;have Dq:∀ {i:Nat}{x:ba},(H.set id (.tok sz n' nl'))[i]? =some x->(i≠id/\H[i]? =some x)\/(i=id/\x= .tok sz n' nl'):=by
  intro i x hx
  by_cases h:i=id
  ·subst h;rw[Qaa G7] at hx;injection hx with hx;exact .inr ⟨rfl,hx.symm⟩
  ·rw[Jaa (rac h)] at hx;exact .inl ⟨h,hx⟩
 cases a with
 |pv p=>exact h
 |ptr i off=>
  refine⟨by simpa using h.1,h.2.1,fun c1 h1=> ?_⟩;rcases Dq h1 with⟨I7,h2⟩ | ⟨rfl,h2⟩
  ·rw[De _ _ I7];exact h.2.2 _ h2
  ·cases h2
 |Ec i n off=>
  refine⟨by simpa using h.1,h.2.1,fun sz ag c1 fl nl h1=> ?_⟩;rcases Dq h1 with⟨I7,h2⟩ | ⟨rfl,h2⟩
  ·rw[De _ _ I7];exact h.2.2 _ _ _ _ _ h2
  ·cases h2
 |uq i b9 sz1 es=>
  refine⟨by simpa using h.1,h.2.1,h.2.2.1,fun sz2 n2 nl2 h1=> ?_⟩;rcases Dq h1 with⟨I7,h2⟩ | ⟨rfl,h2⟩
  ·rw[De _ _ I7];exact h.2.2.2 _ _ _ h2
  ·injection h2 with e1 e2 e3
   subst e1 e2 e3;obtain⟨k1,k2⟩:=h.2.2.2 _ _ _ hc
   rcases hn with hlt | ⟨rfl,rfl,rfl⟩
   ·exact⟨by omega,fun e=>by omega⟩
   ·rw[Fb];exact⟨k1,k2⟩
 |own i len=>
  refine⟨by simpa using h.1,h.2.1,fun sz ag c1 fl nl h1=> ?_⟩;rcases Dq h1 with⟨I7,h2⟩ | ⟨rfl,h2⟩
  ·rw[De _ _ I7];exact h.2.2 _ _ _ _ _ h2
  ·cases h2
 |mp i=>
  refine⟨by simpa using h.1,h.2.1,fun es h1=> ?_⟩;rcases Dq h1 with⟨I7,h2⟩ | ⟨rfl,h2⟩
  ·rw[De _ _ I7];exact h.2.2 _ h2
  ·cases h2
 |Ol ix cs=>exact h.elim
 |agg cs=>exact h.elim
 |mc cs=>exact h.elim
 |undef=>exact h.elim
theorem Ve.append{ps qs:List PV}{vs us:List Value}(h:Ve R ps vs)(h':Ve R qs us):Ve R (ps++qs) (vs++us):=by
 induction ps generalizing vs with
 |nil=>cases h;simpa using h'
 |cons p ps ih=>cases h with | cons _ _ v vs h1 h2=>exact .cons _ _ _ _ h1 (ih h2)
theorem Src.none(a:Addr)(sz:Nat):Src P w (.slice (some a) 0 0) sz 0 []:=
 ⟨fun d=>by simp[Builtin.lenOf],fun d=>by
  show (loadCells _ _).run P _=_
  simp[loadCells,loadCellsFrom],by simp,by simp⟩
theorem NR(hS:vc fo B0 w R φ H){sz:Nat}{ys:List PV}{vx:Value}(h:Ta R (.lit sz ys) vx):
 ∃ news,Ve R (flat ys) news/\Src P w vx sz ys.length news/\∀ e∈ys,e.cells.length=sz:=by
 cases h with
 |lit _ _ b o cap h1 h2 h3=>
  obtain⟨vs,k1,k2,k3⟩:=h3.list
  exact⟨vs,k1,Src.slice (fun j v hj=>hS.sub _ _ _ (k3 j v hj)) (by rw[k1.length,yq h2]) k2,h2⟩
 |IE _ a=>exact⟨[],.nil,Src.none a sz,by simp⟩
theorem nL(hS:vc fo B0 w R φ H){x:AV}{vx:Value}(hx:Sc fo (K R φ H) x vx){sz:Nat}{ys:List PV}(h:Kf sz x=some ys):
 ∃ news,Ve R (flat ys) news/\Src P w vx sz ys.length news/\∀ e∈ys,e.cells.length=sz:=by
 cases hx with
 |atom x vx hx=>
  cases x with
  |pv p=>
   have hx:Ta R p vx:=hx;cases p with
   |ga=>simp[Kf] at h;subst h;cases hx;exact⟨[],.nil,Src.nil sz,by simp⟩
   |lit s ys'=>
    simp only[Kf] at h
    split at h
    ·injection h with h;rename_i e;subst e h;exact NR hS hx
    ·cases h
   |str s=>
    simp only[Kf] at h
    split at h
    ·injection h with h;rename_i e;subst e h
     cases hx;refine⟨_,?_,by have:=Src.str (P:=P) (w:=w) s;rwa [show s.size=(s.data.toList.map fun b=>PV.int .u8 b.toNat).length from by rw[paa,zad];rfl] at this,by intro e he;simp only[oab] at he;obtain⟨b,_,rfl⟩:=he;rfl⟩;clear hS
     induction s.data.toList with
     |nil=>exact .nil
     |cons b l ih=>exact .cons _ _ _ _ (.int _ _) ih
    ·cases h
   |_=>simp[Kf] at h
  |uq id nl s es=>
   simp only[Kf] at h
   split at h
   ·injection h with h;rename_i e;subst e h
    cases nl with
    |true=>
     obtain⟨rfl,rfl⟩:=hx.2.1 rfl
     exact⟨[],.nil,Src.nil _,by simp⟩
    |false=>exact NR hS (hx.2.2.1 rfl)
   ·cases h
  |_=>simp[Kf] at h
 |_=>simp[Kf] at h
theorem Nh{α:Type}(vs:List α):∀ (cs:List α)(o j:Nat),j < o->(fa cs o vs)[j]? =cs[j]? :=by
 induction vs with
 |nil=>intro cs o j _;rfl
 |cons v vs ih=>intro cs o j h;simp only[fa];rw[ih _ _ _ (by omega),Jaa (by omega)]
theorem EI{α:Type}(vs:List α):∀ (cs:List α)(o j:Nat)(v:α),vs[j]? =some v->o+vs.length<=cs.length->(fa cs o vs)[o+j]? =some v:=by
 induction vs with
 |nil=>intro cs o j v h;simp at h
 |cons u vs ih=>
  intro cs o j v h hl;simp only[Raa] at hl;cases j with
  |zero=>simp at h;subst h;show (fa (cs.set o u) (o+1) vs)[o]? =some u;rw[Nh _ _ _ _ (by omega),Qaa (by omega)]
  |succ j=>simp only[fa];rw[show o+(j+1)=o+1+j from by omega];exact ih _ _ _ _ (by simpa using h) (by simp;omega)
theorem Ta.NY{sz:Nat}{es:List PV}{b len cap:Nat}(h:Ta R (.lit sz es) (.slice (some ⟨b,0,none⟩) len cap)):len=es.length/\es.length<=cap/\(∀ e∈es,e.cells.length=sz)/\Rg R (flat es) b 0:=by
 cases h with
 |lit _ _ _ _ _ h1 h2 h3=>exact⟨rfl,h1,h2,h3⟩
 |IE _ _=>exact⟨rfl,waa _,by simp,.nil _ _⟩
structure VR(P:Program)(t tx e:TypeId)(sz bytes:Nat):Prop where
 hu:P.underlying t=some (.slice e)
 hx:∃ dx,P.underlying tx=some dx/\(dx= .slice e\/dx= .string)
 wv:Ud P e=some sz
 rK:Sq P e=some bytes
 pos:0 < bytes
 pos':0 < sz
 hzero:OR P e sz=true
theorem HU(hS:vc fo B0 w R φ H){t tx ty e:TypeId}{sz bytes:Nat}(hA:VR P t tx e sz bytes){id n:Nat}{nl nl':Bool}{es ys:List PV}{vs vx:Value}{x:AV}
 (hs:Sc fo (K R φ H) (.uq id nl sz es) vs) (hx:Sc fo (K R φ H) x vx) (G7:H[id]? =some (.tok sz n nl')) (hn:n=es.length) (hy:Kf sz x=some ys) (hroomb:(es.length+ys.length) * bytes<=140737488355328):
 Tt fo B0 w R φ H ((Builtin.append_ #[t,tx] ty #[vs,vx]).run P w) (.uq id (nl&&ys.isEmpty) sz (es++ys)) (H.set id (.tok sz (es.length+ys.length) (nl&&ys.isEmpty))):=by
 obtain⟨news,hl,X7,hey⟩:=nL (P:=P) hS hx hy;obtain⟨dx,hux,hdx⟩:=hA.hx
 have hk0:K R φ H (.uq id nl sz es) vs:=by cases hs with | atom _ _ h=>exact h
 obtain⟨hlt,k1,k2,k3⟩:=hk0;obtain⟨k4,k5⟩:=k3 _ _ _ G7;obtain⟨e1,e2,k6⟩:=k5 hn;subst e1 hn;have B8:=hS.low
 obtain⟨o1,o2,o3⟩:=hS.obj id _ G7
 have Gab:∀ o,id < (H.set id o).length:=fun o=>by simpa using hlt
 have grow:∀ (base:Option Addr)(cap:Nat)(olds:List Value),vs= .slice base es.length cap->(∀ d,(Builtin.firstCells sz es.length (.slice base es.length cap)).run P (wd w d)= .ok ⟨olds⟩ (wd w d))->
  Ve R (flat es) olds->(∀ e∈es,e.cells.length=sz)->(∀ v∈olds,v.oneCell'=true)->cap < es.length+ys.length->
  Tt fo B0 w R φ H ((Builtin.append_ #[t,tx] ty #[vs,vx]).run P w) (.uq id (nl'&&ys.isEmpty) sz (es++ys)) (H.set id (.tok sz (es.length+ys.length) (nl'&&ys.isEmpty))):=by
  intro base cap olds hv hfc W8 hes R7 K8;subst hv;obtain⟨C,rest,w',L7,hC,raa,hheap,hos,htape,y8⟩:=run_append_grow (ty:=ty) hA.hu hux hdx hA.wv hA.rK hA.pos hA.hzero X7 hfc K8 hroomb
  have I7:(nl'&&ys.isEmpty)=false:=by
   cases nl' with
   |false=>rfl
   |true=>
    cases ys with
    |nil=>obtain⟨q1,q2⟩:=k1 rfl;simp[q2] at K8
    |cons y ys=>rfl
  rw[I7];have hys:0 < ys.length:=by
   cases ys with
   |nil=>
    exfalso;cases nl' with
    |true=>simp at I7
    |false=>
     have h6:=k6 rfl;injection h6 with h61 h62 h63
     obtain⟨arr,ha⟩:=(o3 rfl).2.2
     have:=ha.2.2
     rw[ha.2.1] at this;have:=Yac this hA.pos'
     simp at K8;omega
   |cons y ys=>simp
  have x8:olds.length=es.length * sz:=by rw[W8.length,yq hes]
  have oaj:w.heap.size < w'.heap.size:=by rw[hheap];simp
  have hold':∀ b,b < w.heap.size->w'.heap[b]? =w.heap[b]? :=fun b hb=>by rw[hheap];exact Li hb
  have hblk:Nz w' w.heap.size ⟨olds++news++rest⟩:=⟨e,(0,0),by rw[hheap];simp,fun o _ h=>by omega⟩
  have hcell:∀ o,w'.cell? ⟨w.heap.size,o,none⟩=(olds++news++rest)[o]? :=fun o=>by rw[hblk.cell];simp
  have hsub:=OB hS (fun o=>if o < (es.length+ys.length) * sz then (olds++news++rest)[o]? else none);have hk:=fun a v h=>K.gR (R:=Xq R w.heap.size (fun o=>if o < (es.length+ys.length) * sz then (olds++news++rest)[o]? else none)) (φ:=φ) (n':=es.length+ys.length) (nl':=false) (p:=(w.heap.size,C)) G7 (.inl (by omega)) a v (K.sub hsub a v h)
  have hPR:Ta (Xq R w.heap.size (fun o=>if o < (es.length+ys.length) * sz then (olds++news++rest)[o]? else none)) (.lit sz (es++ys)) (.slice (some ⟨w.heap.size,0,none⟩) (es.length+ys.length) C):=by
   have:=Ta.lit (R:=Xq R w.heap.size (fun o=>if o < (es.length+ys.length) * sz then (olds++news++rest)[o]? else none)) sz (es++ys) w.heap.size 0 C (by simpa using hC)
    (by intro x hx;rcases Naa.1 hx with h | h;exact hes x h;exact hey x h) (by
     rw[ND];refine Rg.Sn ((W8.append hl).mono hsub) (fun v hv=>by rcases Naa.1 hv with h | h;exact R7 v h;exact X7.one v h) fun i v hi=> ?_
     have Haa:=getElem?_lt hi;simp only[Aaa,x8,X7.num] at Haa;have:i < (es.length+ys.length) * sz:=by rw[Nat.add_mul];exact Haa
     simp only[Xq,if_true,eab,this];rw[gaa (by simp[x8,X7.num];exact Haa)];exact hi)
   simpa using this
  refine⟨_,w',_,Wm φ id (w.heap.size,C),L7,?_,.atom _ _ ?_,hk,.iy ⟨hos,htape,y8,by omega,fun k hk=>by rw[hheap];exact Li hk⟩ B8 hS.slt⟩
  ·refine hS.Wm G7 (by omega) (fun b hb _=>hold' b hb) (fun b o hb _=>by unfold Xq;rw[taa (by omega)]) (fun b o v h=> ?_) hk (fun _=> .inr (waa _)) ?_
   ·unfold Xq at h
    split at h
    ·rename_i e;subst e;rw[hcell]
     dsimp only at h
     split at h
     ·exact h
     ·cases h
    ·have:=hS.sub b o v h
     rw[Rf (hold' b (Em this))];exact this
   ·refine⟨o1,(fun h=>by cases h),fun _=> ?_⟩
    rw[Fb];refine⟨B8,fun o ho=>by simp[Xq];omega,⟨olds++news++rest⟩,hblk,?_,?_⟩
    ·simp only[List.size_toArray,Aaa,x8,X7.num,raa,<-Nat.add_mul]
     congr 1;omega
    ·simp only[List.size_toArray,Aaa,x8,X7.num,<-Nat.add_mul]
     omega
  ·refine⟨Gab _,(fun h=>by cases h),fun _=>hPR,fun sz' n' nl2 h=> ?_⟩
   rw[Qaa hlt] at h;injection h with h;injection h with h1 h2 h3
   subst h1 h2 h3;exact⟨by simp,fun _=>⟨rfl,rfl,fun _=>by rw[Fb]⟩⟩
 cases nl' with
 |true=>
  obtain⟨rfl,rfl⟩:=k1 rfl;cases ys with
  |nil=>
   have Iaa:news=[]:=yaa (by rw[X7.num];simp);subst Iaa;have L7:=run_append_nil (ty:=ty) hA.hu hux hdx hA.wv X7
   have F8:H.set id (.tok sz 0 true)=H:=by
    apply Vab;intro i
    by_cases h:i=id
    ·subst h;rw[Qaa hlt];exact G7.symm
    ·rw[Jaa (rac h)]
   have:Tt fo B0 w R φ H ((Builtin.append_ #[t,tx] ty #[.slice none 0 0,vx]).run P w) (.uq id true sz []) H:=Tt.same _ hS L7 hs
   simpa[F8] using this
  |cons y ys=>exact grow none 0 [] rfl (fun d=>by simp[Builtin.firstCells]) .nil (by simp) (by simp) (by simp)
 |false=>
  have hv:=k6 rfl;obtain⟨q1,q2,arr,⟨et,fz,q3,G9⟩,q4,q5⟩:=o3 rfl;have hpr:=k2 rfl;rw[hv] at hpr;obtain⟨_,r1,r2,r3⟩:=Ta.NY hpr
  obtain⟨olds,s1,s2,s3⟩:=r3.list
  have x8:olds.length=es.length * sz:=by rw[s1.length,yq r2]
  by_cases Q8:es.length+ys.length<=(φ id).2
  ·subst hv
   have H9:(φ id).1 < w.heap.size:=Nz.lt ⟨et,fz,q3,G9⟩
   have L7:=run_append_room (ty:=ty) (n0:=es.length) hA.hu hux hdx hA.wv X7 (b:=(φ id).1) (arr:=arr.toList) (et:=et) (fz:=fz) q3 (by simpa using G9) (by simpa using q4) Q8
   have hq4:arr.toList.length=(φ id).2 * sz:=by simpa using q4
   have jaa:es.length * sz+news.length<=arr.toList.length:=by rw[X7.num,<-Nat.add_mul,hq4];exact wac _ Q8
   have hsub:Sub R (fun b o=>if b=(φ id).1/\es.length * sz<=o then (if o < (es.length+ys.length) * sz then (fa arr.toList (es.length * sz) news)[o]? else none) else R b o):=by
    intro b o v h;dsimp only;rw[taa]
    ·exact h
    ·rintro⟨rfl,ho⟩
     rw[q2 o ho] at h;cases h
   have Y7:(false&&ys.isEmpty)=false:=rfl;have hk:=fun a v h=>K.gR (R:=fun b o=>if b=(φ id).1/\es.length * sz<=o then (if o < (es.length+ys.length) * sz then (fa arr.toList (es.length * sz) news)[o]? else none) else R b o) (φ:=φ) (n':=es.length+ys.length) (nl':=false) (p:=φ id) G7
    (by rcases Zac ys.length with h0 | h0;exact .inr ⟨by omega,rfl,rfl⟩;exact .inl (by omega)) a v (K.sub hsub a v h)
   refine⟨_,_,_,Wm φ id (φ id),L7,?_,.atom _ _ ?_,hk,Wv q1 q3 hS.slt (hS.free id ⟨_,G7,rfl⟩)⟩
   ·refine hS.Wm (w':=Ks w (φ id).1 (fa arr.toList (es.length * sz) news) et fz) G7 (by simp[Ks]) (fun b hb I7=>Am (I7 rfl)) (fun b j hb I7=>taa (fun h=>I7 rfl h.1)) (fun b o v h=> ?_) hk (fun _=> .inl ⟨rfl,rfl⟩) ?_
    ·split at h
     ·rename_i hc
      obtain⟨rfl,ho⟩:=hc
      split at h
      ·rw[Nz.cell (arr:=⟨fa arr.toList (es.length * sz) news⟩) ⟨et,fz,Jr H9,fun o ho=>G9 o (by simpa[Xc] using ho)⟩]
       simpa using h
      ·cases h
     ·rename_i hc
      have hs1:=hS.sub b o v h
      by_cases hb:b=(φ id).1
      ·subst hb
       have ho:o < es.length * sz:=by
        rcases Xaa o (es.length * sz) with h | h
        ·exact h
        ·exact absurd ⟨rfl,h⟩ hc
       rw[Nz.cell (arr:=⟨fa arr.toList (es.length * sz) news⟩) ⟨et,fz,Jr H9,fun o ho=>G9 o (by simpa[Xc] using ho)⟩];rw[Nz.cell (arr:=arr) ⟨et,fz,q3,G9⟩] at hs1;simp only[List.getElem?_toArray];rw[Nh _ _ _ _ ho];simpa using hs1
      ·rw[Rf (Am hb)];exact hs1
    ·refine⟨o1,(fun h=>by cases h),fun _=> ?_⟩
     rw[Fb];refine⟨q1,fun o ho=> ?_,⟨fa arr.toList (es.length * sz) news⟩,⟨et,fz,Jr H9,fun o ho=>G9 o (by simpa[Xc] using ho)⟩,by simpa[Xc] using q4,?_⟩
     ·have:es.length * sz<=o:=by rw[Nat.add_mul] at ho;omega
      exact (if_pos ⟨rfl,this⟩).trans (taa (by omega))
     ·show _<=(fa arr.toList (es.length * sz) news).length
      rw[Xc,hq4];exact wac _ Q8
   ·refine⟨Gab _,(fun h=>by cases h),fun _=> ?_,fun sz' n' nl2 h=> ?_⟩
    ·have:=Ta.lit (R:=fun b o=>if b=(φ id).1/\es.length * sz<=o then (if o < (es.length+ys.length) * sz then (fa arr.toList (es.length * sz) news)[o]? else none) else R b o) sz (es++ys) (φ id).1 0 (φ id).2 (by simpa using Q8)
      (by intro x hx;rcases Naa.1 hx with h | h;exact r2 x h;exact hey x h) (by
       rw[ND];refine Rg.append (r3.mono hsub) ?_
       rw[yq r2,eab];refine Rg.Sn (hl.mono hsub) X7.one fun i v hi=> ?_
       have Haa:=getElem?_lt hi;rw[X7.num] at Haa;exact (if_pos ⟨rfl,Nat.le_add_right _ _⟩).trans ((if_pos (by rw[Nat.add_mul];omega)).trans (EI _ _ _ _ _ hi jaa)))
     simpa using this
    ·rw[Qaa hlt] at h
     injection h with h;injection h with h1 h2 h3
     subst h1 h2 h3;exact⟨by simp,fun _=>⟨rfl,rfl,fun _=>by rw[Fb]⟩⟩
  ·refine grow _ _ olds hv (fun d=> ?_) s1 r2 s2 (by omega)
   show (loadCells _ _).run P _=_
   refine Xl (w:=wd w d) (fun j v hj=> ?_) x8;exact hS.sub _ _ _ (s3 j v hj)
end tok
end Go.AM
namespace Go.AM
open Go.RowKit
section own
variable {P:Program}{fo:Nat->FuncId}{B0:wg}{w:World}{R:Rd}{φ:Pl}{H:List ba}
theorem xX(hS:vc fo B0 w R φ H){x:AV}{vx:Value}(hx:Sc fo (K R φ H) x vx){sz m:Nat}{cs:List AV}(h:pk H sz x=some (m,cs)):
 ∃ news,mb fo (K R φ H) cs news/\Src P w vx sz m news:=by
 have gen:∀ {x:AV},Sc fo (K R φ H) x vx->((Kf sz x).map fun ys=>(ys.length,(flat ys).map AV.pv))=some (m,cs)->∃ news,mb fo (K R φ H) cs news/\Src P w vx sz m news:=by intro x hx h;simp only[faa,vaa] at h;obtain⟨ys,hy,rfl,rfl⟩:=h;obtain⟨news,h1,h2,_⟩:=nL (P:=P) hS hx hy;exact⟨news,mb.RG h1,h2⟩
 cases hx with
 |atom x vx hx=>
  cases x with
  |own id len=>
   simp only[pk] at h
   split at h
   ·rename_i s ag c fl nl hc
    split at h
    ·rename_i he
     obtain⟨rfl,he⟩:=he;simp only[eaa,vaa] at h;obtain⟨rfl,rfl⟩:=h;obtain⟨h0,h1,h2,hao,h3⟩:=hS.obj id _ hc
     obtain⟨_,hk⟩:=hx.2.2 _ _ _ _ _ hc
     obtain⟨k1,k2⟩:=hk (by omega);cases nl with
     |true=>
      have:=h2 rfl;subst this;simp only[Dab] at he;have e9:len=0:=by
       rcases Pad.1 he with h | h
       ·exact h
       ·omega
      subst e9;rw[k1 rfl];exact⟨[],.nil,Src.nil _⟩
     |false=>
      obtain⟨b,o,cap,q1,q2,q3⟩:=(k2 rfl).resolve_left (by rintro⟨rfl,I7,_⟩;exact I7 (yaa (by omega)))
      obtain⟨rfl,rfl,rfl⟩:=q2 he;obtain⟨p1,p2,arr,p3,p4,p5,p6⟩:=h3 rfl;subst q1;refine⟨_,p6,Src.slice (fun j v hj=> ?_) (by rw[p6.length];omega) (Wp p6 hao)⟩;rw[eab,p3.cell];rw[Rab] at hj
      split at hj
      ·simpa using hj
      ·cases hj
    ·cases h
   ·cases h
  |_=>exact gen (.atom _ _ hx) (by simpa[pk] using h)
 |Ol ix cs vs h1=>exact gen (.Ol _ _ _ h1) (by simpa[pk] using h)
 |agg cs vs h1=>exact gen (.agg _ _ h1) (by simpa[pk] using h)
 |mc cs vs h1=>exact gen (.mc _ _ h1) (by simpa[pk] using h)
 |undef v=>exact gen (.undef _) (by simpa[pk] using h)
theorem K.tS{R':Rd}{id sz:Nat}{ag ag':Bool}{c cs:List AV}{fl:Nat}{nl nl':Bool}{p:Nat×Nat}(hsub:Sub R R')(h0:0 < sz)(hc:H[id]? =some (.seq sz ag c fl nl))(Y7:nl=true->c=[])
 (hp:(nl'=nl/\p=φ id)\/(cs≠[]/\nl'=false/\(nl=false->∀ k ps,Tc (c.take k)=some ps->Rg R' ps (φ id).1 0))) (n9:cs=[]->nl'=nl/\p=φ id) (a:AV) (v:Value) (h:K R φ H a v):
 K R' (Wm φ id p) (H.set id (.seq sz ag' (c++cs) fl nl')) a v:=by
 have G7:=getElem?_lt hc;have h:=K.sub hsub a v h
 have Dq:∀ {i:Nat}{x:ba},(H.set id (.seq sz ag' (c++cs) fl nl'))[i]? =some x->(i≠id/\H[i]? =some x)\/(i=id/\x= .seq sz ag' (c++cs) fl nl'):=by
  intro i x hx
  by_cases h:i=id
  ·subst h;rw[Qaa G7] at hx;injection hx with hx;exact .inr ⟨rfl,hx.symm⟩
  ·rw[Jaa (rac h)] at hx;exact .inl ⟨h,hx⟩
 cases a with
 |pv p=>exact h
 |ptr i off=>
  refine⟨by simpa using h.1,h.2.1,fun c1 h1=> ?_⟩;rcases Dq h1 with⟨I7,h2⟩ | ⟨rfl,h2⟩
  ·rw[De _ _ I7];exact h.2.2 _ h2
  ·cases h2
 |Ec i n off=>
  refine⟨by simpa using h.1,h.2.1,fun sz1 ag1 c1 fl1 b9 h1=> ?_⟩;rcases Dq h1 with⟨I7,h2⟩ | ⟨rfl,h2⟩
  ·rw[De _ _ I7];exact h.2.2 _ _ _ _ _ h2
  ·injection h2 with e1 e2 e3 e4 e5
   subst e1 e2 e3 e4 e5;obtain⟨k0,k⟩:=h.2.2 _ _ _ _ _ hc
   refine⟨by simp;omega,fun hf=> ?_⟩;obtain⟨k1,k2⟩:=k hf
   by_cases kaa:cs=[]
   ·obtain⟨rfl,rfl⟩:=n9 kaa
    subst kaa;rw[Fb];simpa using ⟨k1,k2⟩
   ·have hlen:0 < cs.length:=Zab.2 kaa
    refine⟨fun e=>by simp at e;omega,fun ps hps hn0=> ?_⟩;have htake:(c++cs).take n=c.take n:=by rw[Iae,show n - c.length=0 from by omega];simp
    rw[htake] at hps;rcases hp with⟨_,rfl⟩ | ⟨_,_,hold⟩
    ·rw[Fb];exact k2 ps hps hn0
    ·have paj:nl=false:=by
      cases nl with
      |false=>rfl
      |true=>have:=Y7 rfl;subst this;simp at k0;omega
     rcases k2 ps hps hn0 with rfl | hr
     ·exact .inr ⟨_,0,by rw[eab],hold paj _ ps hps⟩
     ·exact .inr hr
 |uq i nl sz es=>
  refine⟨by simpa using h.1,h.2.1,h.2.2.1,fun sz' n nl' h1=> ?_⟩;rcases Dq h1 with⟨I7,h2⟩ | ⟨rfl,h2⟩
  ·rw[De _ _ I7];exact h.2.2.2 _ _ _ h2
  ·cases h2
 |own i len=>
  refine⟨by simpa using h.1,h.2.1,fun sz1 ag1 c1 fl1 b9 h1=> ?_⟩;rcases Dq h1 with⟨I7,h2⟩ | ⟨rfl,h2⟩
  ·rw[De _ _ I7];exact h.2.2 _ _ _ _ _ h2
  ·injection h2 with e1 e2 e3 e4 e5
   subst e1 e2 e3 e4 e5;obtain⟨k0,k⟩:=h.2.2 _ _ _ _ _ hc
   refine⟨by simp;omega,fun hf=> ?_⟩;obtain⟨k1,k2⟩:=k hf
   by_cases kaa:cs=[]
   ·obtain⟨rfl,rfl⟩:=n9 kaa
    subst kaa;rw[Fb];simpa using ⟨k1,k2⟩
   ·have hlen:0 < cs.length:=Zab.2 kaa
    have htake:(c++cs).take (len * sz1)=c.take (len * sz1):=by rw[Iae,show len * sz1 - c.length=0 from by omega];simp
    cases nl with
    |true=>
     have hc0:=Y7 rfl;subst hc0;simp only[Dab] at k0;have e9:len=0:=by
      rcases Pad.1 (Nat.le_zero.1 k0) with h | h
      ·exact h
      ·omega
     exact⟨fun _=>k1 rfl,fun _=> .inl ⟨e9,by simpa using kaa,k1 rfl⟩⟩
    |false=>
     have raj:b9=false:=by rcases hp with⟨e,_⟩ | ⟨_,e,_⟩ <;> exact e
     subst raj;refine⟨(fun h=>by cases h),fun _=> ?_⟩;rcases k2 rfl with⟨q1,q2,q3⟩ | ⟨b,o,cap,q1,q2,q3⟩
     ·exact .inl ⟨q1,by simp[q2],q3⟩
     ·refine .inr ⟨b,o,cap,q1,fun e=>by simp at e;omega,fun ps hps=> ?_⟩
      rw[htake] at hps;rcases hp with⟨_,rfl⟩ | ⟨_,_,hold⟩
      ·rw[Fb];exact q3 ps hps
      ·rcases q3 ps hps with⟨rfl,rfl⟩ | hr
       ·exact .inr (hold rfl _ ps hps)
       ·exact .inr hr
 |mp i=>
  refine⟨by simpa using h.1,h.2.1,fun es h1=> ?_⟩;rcases Dq h1 with⟨I7,h2⟩ | ⟨rfl,h2⟩
  ·rw[De _ _ I7];exact h.2.2 _ h2
  ·cases h2
 |Ol ix cs=>exact h.elim
 |agg cs=>exact h.elim
 |mc cs=>exact h.elim
 |undef=>exact h.elim
theorem zQ(hS:vc fo B0 w R φ H){t tx ty e:TypeId}{sz bytes:Nat}(hA:VR P t tx e sz bytes){id len m fl:Nat}{ag' nl:Bool}{cells cs:List AV}{vs vx:Value}{x:AV}
 (hs:Sc fo (K R φ H) (.own id len) vs) (hx:Sc fo (K R φ H) x vx) (G7:H[id]? =some (.seq sz ag' cells fl nl)) (hn:len * sz=cells.length) (hy:pk H sz x=some (m,cs)) (hcs1:cs.all AV.one=true)
 (hroomb:(len+m) * bytes<=140737488355328):
 Tt fo B0 w R φ H ((Builtin.append_ #[t,tx] ty #[vs,vx]).run P w) (.own id (len+m)) (H.set id (.seq sz ag' (cells++cs) fl (nl&&(m==0)))):=by
 obtain⟨news,hl,X7⟩:=xX (P:=P) hS hx hy;obtain⟨dx,hux,hdx⟩:=hA.hx
 have hk0:K R φ H (.own id len) vs:=by cases hs with | atom _ _ h=>exact h
 obtain⟨hlt,k1,k2⟩:=hk0;obtain⟨_,k3⟩:=k2 _ _ _ _ _ G7;obtain⟨o1,o2,o3,o4,o5⟩:=hS.obj id _ G7
 obtain⟨k4,k5⟩:=k3 (by omega);have B8:=hS.low
 have gab:cs.length=m * sz:=by rw[<- hl.length,X7.num]
 have v8:(cells++cs).all AV.one=true:=by simp only[List.all_append,daa];exact⟨o4,hcs1⟩
 have Gab:∀ o,id < (H.set id o).length:=fun o=>by simpa using hlt
 have hm0:cs=[]->m=0:=fun h=>by
  subst h;rcases Pad.1 gab.symm with h | h
  ·exact h
  ·omega
 have iab:∀ {R':Rd}{φ':Pl}{nl':Bool}{v':Value},(nl'=true->v'= .slice none 0 0)->(nl'=false->v'= .slice (some ⟨(φ' id).1,0,none⟩) (len+m) (φ' id).2)->v'.oneCell'=true->
  K R' φ' (H.set id (.seq sz ag' (cells++cs) fl nl')) (.own id (len+m)) v':=by
  intro R' φ' nl' v' hv1 hv2 hv3;refine⟨Gab _,hv3,fun sz1 ag1 c1 fl1 b9 h=> ?_⟩;rw[Qaa hlt] at h;injection h with h;injection h with h1 h2 h3 h4 h5
  subst h1 h2 h3 h4 h5;refine⟨by simp[gab,Nat.add_mul];omega,fun _=>⟨hv1,fun e=> .inr ⟨_,_,_,hv2 e,fun _=>⟨rfl,rfl,rfl⟩,fun ps _=> .inl ⟨rfl,rfl⟩⟩⟩⟩
 have grow:∀ (base:Option Addr)(cap:Nat)(olds:List Value),vs= .slice base len cap->(∀ d,(Builtin.firstCells sz len (.slice base len cap)).run P (wd w d)= .ok ⟨olds⟩ (wd w d))->
  mb fo (K R φ H) cells olds->(nl=false->∀ i v,olds[i]? =some v->w.cell? ⟨(φ id).1,i,none⟩=some v)->cap < len+m->(nl&&(m==0))=false->
  Tt fo B0 w R φ H ((Builtin.append_ #[t,tx] ty #[vs,vx]).run P w) (.own id (len+m)) (H.set id (.seq sz ag' (cells++cs) fl (nl&&(m==0)))):=by
  intro base cap olds hv hfc W8 hoc K8 I7;subst hv;rw[I7];obtain⟨C,rest,w',L7,hC,raa,hheap,hos,htape,y8⟩:=run_append_grow (ty:=ty) hA.hu hux hdx hA.wv hA.rK hA.pos hA.hzero X7 hfc K8 hroomb
  have oaj:w.heap.size < w'.heap.size:=by rw[hheap];simp
  have hold':∀ b,b < w.heap.size->w'.heap[b]? =w.heap[b]? :=fun b hb=>by rw[hheap];exact Li hb
  have hblk:Nz w' w.heap.size ⟨olds++news++rest⟩:=⟨e,(0,0),by rw[hheap];simp,fun o _ h=>by omega⟩
  have Iad:=W8.length
  have hsub:Sub R (fun b o=>if nl=false/\b=(φ id).1 then w.cell? ⟨b,o,none⟩ else R b o):=by
   intro b o v h;dsimp only
   split
   ·exact hS.sub b o v h
   ·exact h
  have Sag:cs≠[]:=by
   intro h;have hm:=hm0 h;subst hm;cases nl with
   |true=>simp at I7
   |false=>
    rcases k5 rfl with⟨q1,q2,q3⟩ | ⟨b,o,saj,q1,q2,q3⟩
    ·subst q1
     exact q2 (yaa (by omega))
    ·injection q1 with q11 q12 q13
     obtain⟨_,_,q4⟩:=q2 hn;subst q13 q4;obtain⟨_,_,arr,_,a4,a5,_⟩:=o5 rfl;rw[a4,<-hn] at a5;have:=Yac a5 o1;omega
  have hk:=fun a v h=>K.tS (R:=R) (φ:=φ) (R':=fun b o=>if nl=false/\b=(φ id).1 then w.cell? ⟨b,o,none⟩ else R b o) (ag':=ag') (cs:=cs) (nl':=false) (p:=(w.heap.size,C)) hsub o1 G7 o3
   (.inr ⟨Sag,rfl,fun Y7 k ps hps=>by
    have h1:=W8.take k
    refine Rg.Sn ((Rk hps h1).mono hsub) (Wp h1 ?_) fun i v hi=> ?_
    ·rw[aab] at o4 ⊢
     exact fun x hx=>o4 x (xac hx)
    ·refine (if_pos ⟨Y7,rfl⟩).trans ?_
     rw[eab];refine hoc Y7 i v ?_;rw[Rab] at hi
     split at hi
     ·exact hi
     ·cases hi⟩) (fun h=>absurd h Sag) a v h
  refine⟨_,w',_,Wm φ id (w.heap.size,C),L7,?_,.atom _ _ (iab (fun h=>by cases h) (fun _=>by rw[Fb]) rfl),hk,.iy ⟨hos,htape,y8,by omega,fun k hk=>by rw[hheap];exact Li hk⟩ B8 hS.slt⟩;refine hS.Wm G7 (by omega) (fun b hb _=>hold' b hb) (fun b o hb taj=>taa (fun h=>taj h.1 h.2)) (fun b o v h=> ?_) hk (fun _=> .inr (waa _)) ?_
  ·split at h
   ·rw[Rf (hold' b (Em h))];exact h
   ·have:=hS.sub b o v h
    rw[Rf (hold' b (Em this))];exact this
  ·refine⟨o1,by simp;omega,(fun h=>by cases h),v8,fun _=> ?_⟩
   rw[Fb];refine⟨B8,fun o=> ?_,⟨olds++news++rest⟩,hblk,?_,?_,?_⟩
   ·refine (taa ?_).trans (hS.tB (waa _) o)
    rintro⟨Y7,he⟩;obtain⟨_,_,arr,a3,_⟩:=o5 Y7;have:=a3.lt
    omega
   ·show (olds++news++rest).length=C * sz
    simp only[Aaa,Iad,<-hn,X7.num,raa,<-Nat.add_mul]
    congr 1;omega
   ·show _<=(olds++news++rest).length
    simp only[Aaa,Iad,X7.num,gab];omega
   ·have:(olds++news++rest).take (cells++cs).length=olds++news:=by
     rw[Jac (by simp[Iad,X7.num,gab]),Zaa (by simp[Iad,X7.num,gab])]
    simp only[this];exact (W8.append hl).mono hk
 cases nl with
 |true=>
  have hc0:=o3 rfl;subst hc0;have hv:=k4 rfl;have e9:len=0:=by
   rcases Pad.1 hn with h | h
   ·exact h
   ·omega
  subst e9
  by_cases hm:m=0
  ·subst hm
   have Iaa:news=[]:=yaa (by rw[X7.num];simp);have kaa:cs=[]:=yaa (by omega);subst Iaa kaa;subst hv;have L7:=run_append_nil (ty:=ty) hA.hu hux hdx hA.wv X7
   have F8:H.set id (.seq sz ag' ([]++[]) fl (true&&(0==0)))=H:=by
    apply Vab;intro i
    by_cases h:i=id
    ·subst h;rw[Qaa hlt];exact G7.symm
    ·rw[Jaa (rac h)]
   rw[F8];exact Tt.same _ hS L7 hs
  ·have hmb:(m==0)=false:=by simpa using hm
   exact grow none 0 [] hv (fun d=>by simp[Builtin.firstCells]) .nil (fun h=>by cases h) (by omega) (by simp[hmb])
 |false=>
  obtain⟨q1,q2,arr,⟨et,fz,q3,G9⟩,q4,q5,q6⟩:=o5 rfl;rcases k5 rfl with⟨r1,r2,r3⟩ | ⟨b,o,cap,r1,r2,r3⟩
  ·subst r1
   exact absurd (yaa (by omega)) r2
  obtain⟨rfl,rfl,rfl⟩:=r2 hn;have hq4:arr.toList.length=(φ id).2 * sz:=by simpa using q4
  by_cases Q8:len+m<=(φ id).2
  ·subst r1
   have H9:(φ id).1 < w.heap.size:=Nz.lt ⟨et,fz,q3,G9⟩
   have L7:=run_append_room (ty:=ty) (n0:=len) hA.hu hux hdx hA.wv X7 (b:=(φ id).1) (arr:=arr.toList) (et:=et) (fz:=fz) q3 (by simpa using G9) hq4 Q8
   have jaa:len * sz+news.length<=arr.toList.length:=by rw[X7.num,<-Nat.add_mul,hq4];exact wac _ Q8
   have hk:=fun a v h=>K.tS (R:=R) (φ:=φ) (ag':=ag') (cs:=cs) (nl':=false) (p:=φ id) (Sub.refl R) o1 G7 o3 (.inl ⟨rfl,rfl⟩) (fun _=>⟨rfl,rfl⟩) a v h
   refine⟨_,_,R,Wm φ id (φ id),L7,?_,.atom _ _ (iab (fun h=>by cases h) (fun _=>by rw[Fb]) rfl),hk,Wv q1 q3 hS.slt (hS.free id ⟨_,G7,rfl⟩)⟩;refine hS.Wm (w':=Ks w (φ id).1 (fa arr.toList (len * sz) news) et fz) G7 (by simp[Ks]) (fun b hb I7=>Am (I7 rfl)) (fun _ _ _ _=>rfl) (fun b o v hv=> ?_) hk (fun _=> .inl ⟨rfl,rfl⟩) ?_
   ·rw[Rf (Am (fun e=>by subst e;rw[q2] at hv;cases hv))];exact hS.sub b o v hv
   ·refine⟨o1,by simp;omega,(fun h=>by cases h),v8,fun _=> ?_⟩
    rw[Fb];refine⟨q1,q2,⟨fa arr.toList (len * sz) news⟩,⟨et,fz,Jr H9,fun o ho=>G9 o (by simpa[Xc] using ho)⟩,by simpa[Xc] using q4,?_,?_⟩
    ·show _<=(fa arr.toList (len * sz) news).length
     rw[Xc];simp only[Aaa,gab,<-hn];rw[X7.num] at jaa;exact jaa
    ·have Uag:=jaa
     rw[X7.num] at Uag;have h1:(cells++cs).length=(len+m) * sz:=by simp[gab,<-hn,Nat.add_mul]
     have:(fa arr.toList (len * sz) news).take (cells++cs).length=arr.toList.take cells.length++news:=by
      apply Vab;intro i;rw[Rab];have Vag:(arr.toList.take cells.length).length=len * sz:=by rw[Lab,<-hn];omega
      split
      ·rename_i hi
       rw[h1] at hi
       by_cases hi2:i < len * sz
       ·rw[Nh _ _ _ _ hi2,gaa (by omega),Rab,if_pos (by omega)]
       ·have hi3:i - len * sz < news.length:=by rw[X7.num];rw[Nat.add_mul] at hi;omega
        have:=EI news arr.toList (len * sz) (i - len * sz) news[i - len * sz] (caa hi3) jaa
        rw[show len * sz+(i - len * sz)=i from by omega] at this;rw[this,Paa (by omega),Vag,caa hi3]
      ·rename_i hi
       rw[h1] at hi;rw[Yaa];rw[Aaa,Vag,X7.num,<-Nat.add_mul];omega
     simp only[this];exact (q6.append hl).mono hk
  ·refine grow _ _ (arr.toList.take cells.length) r1 (fun d=> ?_) q6 (fun _ i v hi=> ?_) (by omega) rfl
   ·show (loadCells _ _).run P _=_
    refine Xl (w:=wd w d) (fun j v hj=> ?_) (by rw[Lab,hn];simp;omega);rw[eab,F1,Nz.cell (arr:=arr) ⟨et,fz,q3,G9⟩];rw[Rab] at hj
    split at hj
    ·simpa using hj
    ·cases hj
   ·rw[Nz.cell (arr:=arr) ⟨et,fz,q3,G9⟩]
    rw[Rab] at hi
    split at hi
    ·simpa using hi
    ·cases hi
end own
end Go.AM
namespace Go.AM
open Go.RowKit
def vB:Value->PV->Bool
 | .int k n,.int k' n'=>decide (k=k')&&decide (n=n')
 | .bool a,.bool b=>a==b
 | .string s,.str t=>s.data.toList==t.data.toList
 | .pointer none,.qf=>true
 | .slice none 0 0,.ga=>true
 | .map none,.nw=>true
 | .nilFunc,.Pw=>true
 | .nilIface,.PB=>true
 | .tuple vs,.mc []=>vs.size==0
 |_,_=>false
theorem Fy{R:Rd}{v:Value}{p:PV}(h:vB v p=true):Ta R p v:=by
 unfold vB at h
 split at h
 ·simp only[daa,decide_eq_true_eq] at h
  obtain⟨rfl,rfl⟩:=h;exact .int _ _
 ·simp at h;subst h;exact .bool _
 ·rename_i s t
  have:s=t:=by cases s;cases t;simp at h;subst h;rfl
  subst this;exact .str _
 ·exact .qf
 ·exact .ga
 ·exact .nw
 ·exact .Pw
 ·exact .PB
 ·rename_i vs
  have:vs= #[]:=by simpa using h
  subst this;exact .mc [] [] .nil
 ·cases h
def Pr:List Value->List PV->Bool
 | [],[]=>true
 |v::vs,p::ps=>vB v p&&cI p&&Pr vs ps
 |_,_=>false
theorem Io{R:Rd}:∀ {vs:List Value}{ps:List PV},Pr vs ps=true->Ve R ps vs/\(ps.map AV.pv).all AV.one=true
 | [],[],_=>⟨.nil,rfl⟩
 |v::vs,p::ps,h=>by
  simp only[Pr,daa] at h;obtain⟨h1,h2⟩:=Io (R:=R) h.2
  exact⟨.cons _ _ _ _ (Fy h.1.1) h1,by simp only[pab,zac,h2,mae];exact h.1.2⟩
 | [],_::_,h=>by simp[Pr] at h
 |_::_,[],h=>by simp[Pr] at h
def tw(P:Program)(t:TypeId)(zero:List PV):Bool:=
 match P.info? t with
 |some i=>match i.zero with
  |some z=>Pr z.cells.toList zero
  |none=>false
 |none=>false
def Xm(fo:Nat->FuncId):Operand->AO->Bool
 | .tmp n,.t m=>n==m
 | .const v,.c p=>vB v p
 | .func f,.f ix=>fo ix==f
 |_,_=>false
section ops
variable {P:Program}{fo:Nat->FuncId}{B0:wg}{w:World}{R:Rd}{φ:Pl}{H:List ba}{e:Tr}{a:Act}
theorem Rb(hE:ij fo (K R φ H) e a){x:Operand}{y:AO}(h:Xm fo x y=true):Sc fo (K R φ H) (y.ev e) (a.eval x):=by
 unfold Xm at h
 split at h
 ·simp at h;subst h;exact hE _
 ·exact .atom _ _ (Fy h)
 ·simp at h;subst h;exact .Ol _ [] [] .nil
 ·cases h
def JE(fo:Nat->FuncId):List Operand->List AO->Bool
 | [],[]=>true
 |x::xs,y::ys=>Xm fo x y&&JE fo xs ys
 |_,_=>false
theorem Mt(hE:ij fo (K R φ H) e a):∀ {xs:List Operand}{ys:List AO},JE fo xs ys=true->mb fo (K R φ H) (ys.map (·.ev e)) (xs.map a.eval)
 | [],[],_=> .nil
 |x::xs,y::ys,h=>by simp only[JE,daa] at h;exact .cons _ _ _ _ (Rb hE h.1) (Mt hE h.2)
 | [],_::_,h=>by simp[JE] at h
 |_::_,[],h=>by simp[JE] at h
abbrev Zm(fo:Nat->FuncId)(B0:wg)(w:World)(R:Rd)(φ:Pl)(H:List ba)(P:Program)(s:Sem Value)(v:AV)(H':List ba):Prop:=Tt fo B0 w R φ H (s.run P w) v H'
theorem Je{x:AV}{vx:Value}(hx:Sc fo (K R φ H) x vx){k:IntKind}{n:Int}(h:AM.asInt x=some (k,n)):vx= .int k n:=by
 cases x with
 |pv p=>
  cases p with
  |int k' n'=>
   simp[AM.asInt] at h;obtain⟨rfl,rfl⟩:=h;have:=hx.Sb
   cases this;rfl
  |_=>simp[AM.asInt] at h
 |_=>simp[AM.asInt] at h
theorem YA{x:AV}{vx:Value}(hx:Sc fo (K R φ H) x vx){b:Bool}(h:AM.asBool x=some b):vx= .bool b:=by
 cases x with
 |pv p=>
  cases p with
  |bool b'=>
   simp[AM.asBool] at h;subst h;have:=hx.Sb
   cases this;rfl
  |_=>simp[AM.asBool] at h
 |_=>simp[AM.asBool] at h
theorem wD(hS:vc fo B0 w R φ H){x y:AV}{vx:Value}(hx:Sc fo (K R φ H) x vx){d:Nat}(h:place H d x=some y):∃ b o,vx= .pointer (some ⟨b,o,none⟩)/\Sc fo (K R φ H) y (.pointer (some ⟨b,o+d,none⟩)):=by
 cases hx with
 |atom x vx hx=>
  cases x with
  |pv p=>
   have hx:Ta R p vx:=hx;cases p with
   |rp row off=>
    simp[place] at h;subst h;cases hx with
    |rp _ _ b o hr=>exact⟨b,o+off,rfl,.atom _ _ (by rw[Nat.add_assoc];exact Ta.rp row (off+d) b o hr)⟩
   |_=>simp[place] at h
  |ptr id off=>
   simp only[place] at h
   split at h
   ·rename_i c hc
    injection h with h;subst h
    refine⟨_,_,hx.2.2 c hc,.atom _ _ ⟨hx.1,rfl,fun c' M9=>rfl⟩⟩
   ·cases h
  |Ec id n off=>
   simp only[place] at h
   split at h
   ·rename_i sz ag c fl nl hc
    obtain⟨k0,kk⟩:=hx.2.2 _ _ _ _ _ hc
    obtain⟨h0,h1,h2,hao,h3⟩:=hS.obj id _ hc
    have out:∀ {v:Value}{bb oo:Nat},v= .pointer (some ⟨bb,oo+d,none⟩)->((c.length=n->bb=(φ id).1/\oo=off)/\(∀ ps,Tc (c.take n)=some ps->0 < n->(bb=(φ id).1/\oo=off)\/∃ o,oo=o+off/\Rg R ps bb o))->fl<=n->
     Sc fo (K R φ H) (.Ec id n (off+d)) v:=by
     intro v bb oo hv hq hfl;subst hv;refine .atom _ _ ⟨hx.1,rfl,fun sz' ag' c' o8 nl' M9=> ?_⟩
     rw[hc] at M9;injection M9 with M9;injection M9 with e1 e2 e3 e4 e5
     subst e1 e2 e3 e4 e5;refine⟨k0,fun _=>⟨fun e=> ?_,fun ps hps hn0=> ?_⟩⟩
     ·obtain⟨rfl,rfl⟩:=hq.1 e;rfl
     ·rcases hq.2 ps hps hn0 with⟨rfl,rfl⟩ | ⟨o,rfl,hr⟩
      ·exact .inl rfl
      ·exact .inr ⟨bb,o,by rw[Nat.add_assoc],hr⟩
    split at h
    ·rename_i hn
     injection h with h;subst h
     have hv:=(kk (by omega)).1 hn
     exact⟨_,_,hv,out rfl ⟨fun _=>⟨rfl,rfl⟩,fun _ _ _=> .inl ⟨rfl,rfl⟩⟩ (by omega)⟩
    ·split at h
     ·rename_i hn hf
      simp only[faa] at h;obtain⟨ps,hps,rfl⟩:=h;rcases (kk hf.1).2 ps hps hf.2 with hv | ⟨b,o,hv,hr⟩
      ·exact⟨_,_,hv,out rfl ⟨fun e=>absurd e hn,fun _ _ _=> .inl ⟨rfl,rfl⟩⟩ hf.1⟩
      ·refine⟨_,_,hv,out rfl ⟨fun e=>absurd e hn,fun ps' Jad _=> .inr ⟨o,rfl,?_⟩⟩ hf.1⟩
       rw[hps] at Jad;injection Jad with Jad;subst Jad;exact hr
     ·cases h
   ·cases h
  |_=>simp[place] at h
 |_=>simp[place] at h
theorem mP{x y:AV}(h:place H 0 x=some y):y=x:=by
 cases x with
 |pv p=>cases p <;> simp_all [place]
 |ptr id off=>simp only[place] at h;split at h <;> simp_all
 |Ec id n off=>
  simp only[place] at h
  split at h
  ·split at h
   ·simp_all
   ·split at h
    ·simp only[faa] at h;obtain⟨_,_,rfl⟩:=h;rfl
    ·cases h
  ·cases h
 |_=>simp[place] at h
theorem VU(hS:vc fo B0 w R φ H){x y:AV}{vx:Value}(hx:Sc fo (K R φ H) x vx){s:TypeId}{f:Nat}{fs:Array Field}{fd:Field}{n:Nat}(hu:P.underlying s=some (.struct fs))(hf:fs[f]? =some fd)
 (hn:Ud P fd.type=some n) (hn0:n≠0) (h:place H fd.offset x=some y):Zm fo B0 w R φ H P (Instr.fieldAt s vx f) y H:=by
 obtain⟨b,o,rfl,h2⟩:=wD hS hx h;refine Tt.same _ hS ?_ h2
 simp[Instr.fieldAt,run_underlying hu,hf,Instr.sureAddr,fieldPlace,zc hn,hn0,Pn]
theorem DP(hS:vc fo B0 w R φ H){x y:AV}{vx:Value}(hx:Sc fo (K R φ H) x vx){t el:TypeId}{n sz:Nat}{k:IntKind}{i:Int}(hu:P.underlying t=some (.array n el))(K7:Ud P el=some sz)(hi:Ia i n)
 (h:place H (i.toNat * sz) x=some y):Zm fo B0 w R φ H P (Instr.indexAt t vx (.int k i)) y H:=by
 obtain⟨b,o,rfl,h2⟩:=wD hS hx h;refine Tt.same _ hS ?_ h2
 obtain⟨i1,i2⟩:=hi;simp[Instr.indexAt,asIntOf,run_underlying hu,Instr.sureAddr,i1,i2,zc K7,Pn]
theorem eU(hS:vc fo B0 w R φ H){x y:AV}{vx:Value}(hx:Sc fo (K R φ H) x vx){t el:TypeId}{sz:Nat}{k:IntKind}{i:Int}(hu:P.underlying t=some (.slice el))(K7:Ud P el=some sz)
 (h:ta H sz x i=some y):Zm fo B0 w R φ H P (Instr.indexAt t vx (.int k i)) y H:=by
 have run:∀ (b o len cap:Nat),0<=i->i < (len:Int)->(Instr.indexAt t (.slice (some ⟨b,o,none⟩) len cap) (.int k i)).run P w= .ok (.pointer (some ⟨b,o+i.toNat * sz,none⟩)) w:=by intro b o len cap i1 i2;simp[Instr.indexAt,asIntOf,run_underlying hu,i1,i2,zc K7,Pn]
 have Lac:∀ {es:List PV},Ta R (.lit sz es) vx->Ia i es.length->es[i.toNat]?.map (fun e=>AV.pv (.rp e.cells 0))=some y->Zm fo B0 w R φ H P (Instr.indexAt t vx (.int k i)) y H:=by
  intro es hp hi hy;cases hp with
  |lit _ _ b o cap h1 h2 h3=>
   simp only[faa] at hy;obtain⟨el,he,rfl⟩:=hy;refine Tt.same _ hS (run b o _ _ hi.1 hi.2) (.atom _ _ ?_)
   show Ta _ _ _;have h4:=(h3.drop (i.toNat * sz)).take sz
   rw[iM h2 he] at h4;exact Ta.rp _ 0 b _ h4
  |IE _ a=>simp at hy
 cases hx with
 |atom x vx hx=>
  cases x with
  |pv p=>
   cases p with
   |lit s es=>
    simp only[ta] at h
    split at h
    ·rename_i hc;obtain⟨rfl,hi⟩:=hc;exact Lac hx hi h
    ·cases h
   |_=>simp[ta] at h
  |uq id nl s es=>
   simp only[ta] at h
   split at h
   ·rename_i hc
    obtain⟨rfl,hi⟩:=hc;cases nl with
    |true=>
     obtain⟨_,rfl⟩:=hx.2.1 rfl
     simp[Ia] at hi;omega
    |false=>exact Lac (hx.2.2.1 rfl) hi h
   ·cases h
  |own id len=>
   simp only[ta] at h
   split at h
   ·rename_i s ag c fl nl hc
    split at h
    ·rename_i hi
     obtain⟨rfl,hi,hw1,hw2⟩:=hi;obtain⟨k0,k⟩:=hx.2.2 _ _ _ _ _ hc
     obtain⟨h0,h1,h2,hao,h3⟩:=hS.obj id _ hc
     have hlen:0 < len:=by have:=hi.1;have:=hi.2;omega
     have Y7:nl=false:=by
      cases nl with
      |false=>rfl
      |true=>
       have:=h2 rfl;subst this;simp only[Dab] at k0;have:0 < len * s:=Nat.mul_pos hlen h0
       omega
     subst Y7;injection h with h;subst h
     obtain⟨k1,k2⟩:=k hw1;rcases k2 rfl with⟨q1,_,_⟩ | ⟨b,o,cap,q1,q2,q3⟩
     ·omega
     ·subst q1
      refine Tt.same _ hS (run _ _ _ _ hi.1 hi.2) (.atom _ _ ⟨hx.1,rfl,fun sz' ag' c' o8 nl' M9=> ?_⟩)
      rw[hc] at M9;injection M9 with M9;injection M9 with e1 e2 e3 e4 e5
      subst e1 e2 e3 e4 e5;refine⟨k0,fun _=>⟨fun e=> ?_,fun ps hps _=> ?_⟩⟩
      ·obtain⟨rfl,rfl,_⟩:=q2 e.symm
       rw[eab]
      ·rcases q3 ps hps with⟨rfl,rfl⟩ | hr
       ·rw[eab];exact .inl rfl
       ·exact .inr ⟨b,o,rfl,hr⟩
    ·cases h
   ·cases h
  |_=>simp[ta] at h
 |_=>simp[ta] at h
end ops
end Go.AM
namespace Go.AM
open Go.RowKit
section ops
variable {P:Program}{fo:Nat->FuncId}{B0:wg}{w:World}{R:Rd}{φ:Pl}{H:List ba}{e:Tr}{a:Act}
theorem iV(hS:vc fo B0 w R φ H){t:TypeId}{zero:List PV}(hz:tw P t zero=true):Zm fo B0 w R φ H P (Instr.alloc t true (.tuple #[])) (.ptr H.length 0) (H++[.box (zero.map .pv)]):=by
 unfold tw at hz;cases hi:P.info? t with
 |none=>simp[hi] at hz
 |some i=>
  simp only[hi] at hz;cases hzz:i.zero with
  |none=>simp[hzz] at hz
  |some z=>simp only[hzz] at hz;obtain⟨h1,h2⟩:=Io (R:=R) hz;have:=dS (fo:=fo) (B0:=B0) hS (mb.RG h1) h2 t;simpa[Zm,Instr.alloc,zeroValue,run_typeInfo w hi,hzz,newVar,newRow] using this
theorem XY(hS:vc fo B0 w R φ H){t:TypeId}{x:AV}{vx:Value}(hx:Sc fo (K R φ H) x vx)(h1:x.cells.all AV.one=true):Zm fo B0 w R φ H P (Instr.box t vx) (.ptr H.length 0) (H++[.box x.cells]):=by
 have:=dS hS (Cz hx h1) h1 t;simpa[Zm,Instr.box,newVar,newRow] using this
theorem wV{cs:List AV}{ps:List PV}{vs:List Value}(h:Ra (Ub [] 0) cs=some ps)(hc:mb fo (K R φ H) cs vs):Ve R ps vs:=by
 induction cs generalizing ps vs with
 |nil=>simp[Ra] at h;subst h;cases hc;exact .nil
 |cons c cs ih=>
  simp only[Ra,uaa,eaa] at h;obtain⟨b,h1,bs,h2,rfl⟩:=h;cases hc with
  |cons _ _ v vs hv hvs=>
   refine .cons _ _ _ _ ?_ (ih h2 hvs)
   cases c with
   |pv p=>simp[Ub] at h1;subst h1;exact hv.Sb
   |uq id nl sz es=>
    have hk:K R φ H (.uq id nl sz es) v:=by cases hv with | atom _ _ h=>exact h
    simp[Ub] at h1;cases nl with
    |true=>simp at h1;subst h1;rw[(hk.2.1 rfl).1];exact .ga
    |false=>simp at h1;subst h1;exact hk.2.2.1 rfl
   |_=>simp[Ub] at h1
theorem BX(hS:vc fo B0 w R φ H){t:TypeId}{x:AV}{vx:Value}(hx:Sc fo (K R φ H) x vx)(h1:x.cells.all AV.one=true){ps:List PV}(hps:Ra (Ub [] 0) x.cells=some ps):Zm fo B0 w R φ H P (Instr.box t vx) (.pv (.rp ps 0)) H:=by
 have hc:=Cz hx h1;have R7:=Wp hc h1;have hl:=wV hps hc;have hsub:=OB hS (fun o=>vx.cells.toList[o]?);have hk:=fun a v=>K.sub (φ:=φ) (H:=H) hsub a v
 have hold:∀ b,b < w.heap.size->({w with heap:=w.heap.push (.cells ⟨vx.cells.toList⟩ t)}:World).heap[b]? =w.heap[b]? :=fun b hb=>Li hb
 have hblk:Nz {w with heap:=w.heap.push (.cells ⟨vx.cells.toList⟩ t)} w.heap.size ⟨vx.cells.toList⟩:=⟨t,(0,0),by simp,fun o _ h=>by omega⟩
 have L7:(Instr.box t vx).run P w= .ok (.pointer (some ⟨w.heap.size,0,none⟩)) {w with heap:=w.heap.push (.cells ⟨vx.cells.toList⟩ t)}:=by simp[Instr.box,newVar,newRow]
 refine⟨_,_,Xq R w.heap.size (fun o=>vx.cells.toList[o]?),φ,L7,⟨sac hS.low (by simp),fun b o v h=> ?_,fun id o ho=> ?_,hS.inj,fun b o hb=>by have:=hS.low;unfold Xq;rw[taa (by omega)];exact hS.Dq b o hb,fun k hk=>eac (hS.slt k hk) (by simp),hS.free⟩,.atom _ _ (show Ta _ _ _ from ?_),hk,sA hS.low hS.slt _⟩
 ·unfold Xq at h
  split at h
  ·rename_i e;subst e;rw[hblk.cell];simpa using h
  ·have:=hS.sub b o v h
   rw[Rf (hold b (Em this))];exact this
 ·have hO:=hS.obj id o ho
  refine hO.ie (fun hlv=>⟨hold _ (hO.lt hlv),fun j hj=> ?_⟩) rfl hk
  have:=hO.lt hlv
  unfold Xq;rw[taa (by omega)];exact hj
 ·have:=Ta.rp (R:=Xq R w.heap.size (fun o=>vx.cells.toList[o]?)) ps 0 w.heap.size 0 (Rg.Sn (hl.mono hsub) R7 fun i v hi=>by
   simp only[Xq,eab,if_true];exact hi)
  simpa using this
theorem ZZ(hS:vc fo B0 w R φ H){t ty:TypeId}{x:AV}{vx:Value}{k n:Nat}(hx:Sc fo (K R φ H) x vx)(hu:(k=0/\∃ e,P.underlying t=some (.slice e))\/(k=1/\P.underlying t=some .string))(h:Tb H k x=some n):
 Zm fo B0 w R φ H P (Builtin.len_ #[t] ty #[vx]) (UR n) H:=by
 rcases hu with⟨rfl,e,hu⟩ | ⟨rfl,hu⟩
 ·have y9:(∃ a c,vx= .slice a n c)->Zm fo B0 w R φ H P (Builtin.len_ #[t] ty #[vx]) (UR n) H:=by
   rintro⟨a,c,rfl⟩;refine Tt.same (.int .i64 n) hS ?_ (.atom _ _ (show Ta R _ _ from .int _ _))
   simp[Builtin.len_,run_underlying hu,goInt]
  cases hx with
  |atom x vx hx=>
   cases x with
   |pv p=>
    have hx:Ta R p vx:=hx;cases p with
    |ga=>simp[Tb] at h;subst h;cases hx <;> exact y9 ⟨_,_,rfl⟩
    |lit s es=>simp[Tb] at h;subst h;cases hx <;> exact y9 ⟨_,_,rfl⟩
    |_=>simp[Tb] at h
   |uq id nl s es=>
    simp[Tb] at h;subst h;cases nl with
    |true=>obtain⟨rfl,rfl⟩:=hx.2.1 rfl;exact y9 ⟨_,_,rfl⟩
    |false=>
     have:=hx.2.2.1 rfl
     cases this <;> exact y9 ⟨_,_,rfl⟩
   |own id len=>
    simp only[Tb] at h
    split at h
    ·rename_i sz ag c fl nl hc
     split at h
     ·rename_i hw
      injection h with h;subst h
      obtain⟨k0,k⟩:=hx.2.2 _ _ _ _ _ hc
      obtain⟨k1,k2⟩:=k hw.1
      obtain⟨h0,h1,h2,_⟩:=hS.obj id _ hc
      cases nl with
      |true=>
       have:=h2 rfl;subst this;have e9:len=0:=by
        rcases Pad.1 (Nat.le_zero.1 k0) with h | h
        ·exact h
        ·omega
       subst e9;exact y9 ⟨_,_,k1 rfl⟩
      |false=>
       rcases k2 rfl with⟨q1,_,q3⟩ | ⟨b,o,cap,q1,_,_⟩
       ·subst q1;exact y9 ⟨_,_,q3⟩
       ·exact y9 ⟨_,_,q1⟩
     ·cases h
    ·cases h
   |_=>simp[Tb] at h
  |_=>simp[Tb] at h
 ·cases x with
  |pv p=>
   cases p with
   |str s=>
    simp[Tb] at h;subst h;have:=hx.Sb
    cases this;refine Tt.same (.int .i64 s.size) hS ?_ (.atom _ _ (show Ta R _ _ from .int _ _))
    simp[Builtin.len_,run_underlying hu,goInt]
   |_=>simp[Tb] at h
  |_=>simp[Tb] at h
theorem Qm{len cap:Nat}{lo hi:Option Value}{l h:Int}(W8:(lo=none/\l=0)\/∃ k,lo=some (.int k l))(hhi:(hi=none/\h=len)\/∃ k,hi=some (.int k h))(W4:Bool)(h0:0<=l)(h1:l<=h)(h2:h<=cap):
 (Instr.sliceBounds W4 len cap lo hi none).run P w= .ok (l.toNat,h.toNat,cap) w:=by
 have hh:0<=h:=by omega
 have hb:l<=(h.toNat:Int):=by omega
 rcases W8 with⟨rfl,rfl⟩ | ⟨k,rfl⟩ <;> rcases hhi with⟨rfl,rfl⟩ | ⟨k',rfl⟩ <;>
  simp[Instr.sliceBounds,Instr.sliceBound,asIntOf,h0,hh,h2,hb] <;> (intro hlt;exfalso;omega)
theorem QT(hS:vc fo B0 w R φ H){t:TypeId}{x y:AV}{vx:Value}{sz:Nat}(hx:Sc fo (K R φ H) x vx)(hu:(sz≠0/\∃ el,P.underlying t=some (.slice el)/\Ud P el=some sz)\/(sz=0/\P.underlying t=some .string))
 {lo hi:Option Value} {lo' hi':Option Int} (W8:(lo=none/\lo'=none)\/∃ k l,lo=some (.int k l)/\lo'=some l) (hhi:(hi=none/\hi'=none)\/∃ k h,hi=some (.int k h)/\hi'=some h)
 (h:ug H sz x lo' hi'=some y):Zm fo B0 w R φ H P (Instr.sliceAt t vx lo hi none) y H:=by
 have H8:(lo=none/\lo'.getD 0=0)\/∃ k,lo=some (.int k (lo'.getD 0)):=by
  rcases W8 with⟨rfl,rfl⟩ | ⟨k,l,rfl,rfl⟩
  ·exact .inl ⟨rfl,rfl⟩
  ·exact .inr ⟨k,rfl⟩
 have s8:∀ n:Nat,(hi=none/\hi'.getD n=n)\/∃ k,hi=some (.int k (hi'.getD n)):=by
  intro n;rcases hhi with⟨rfl,rfl⟩ | ⟨k,l,rfl,rfl⟩
  ·exact .inl ⟨rfl,rfl⟩
  ·exact .inr ⟨k,rfl⟩
 have Lac:∀ {es:List PV},sz≠0->Ta R (.lit sz es) vx->0<=lo'.getD 0->lo'.getD 0<=hi'.getD (es.length:Int)->hi'.getD (es.length:Int)<=(es.length:Int)->
  Zm fo B0 w R φ H P (Instr.sliceAt t vx lo hi none) (.pv (.lit sz ((es.take (hi'.getD (es.length:Int)).toNat).drop (lo'.getD 0).toNat))) H:=by
  intro es K7 hp h1 h2 h3;obtain⟨_,el,hut,I8⟩:=hu.resolve_right (fun h=>K7 h.1)
  cases hp with
  |lit _ _ b o cap c1 c2 c3=>
   have L7:=Qm (P:=P) (w:=w) (cap:=cap) H8 (s8 es.length) true h1 h2 (by omega);have hlen:((es.take (hi'.getD (es.length:Int)).toNat).drop (lo'.getD 0).toNat).length=(hi'.getD (es.length:Int)).toNat - (lo'.getD 0).toNat:=by simp;omega
   have hmem:∀ e∈(es.take (hi'.getD (es.length:Int)).toNat).drop (lo'.getD 0).toNat,e.cells.length=sz:=fun e he=>c2 e (xac (bac he))
   have Xag:∀ e∈es.take (hi'.getD (es.length:Int)).toNat,e.cells.length=sz:=fun e he=>c2 e (xac he)
   by_cases hm:cap=(lo'.getD 0).toNat
   ·refine Tt.same (.slice (some ⟨b,o,none⟩) ((hi'.getD (es.length:Int)).toNat - (lo'.getD 0).toNat) (cap - (lo'.getD 0).toNat)) hS ?_ (.atom _ _ ?_)
    ·simp[Instr.sliceAt,Instr.slice,run_underlying hut,L7,zc I8]
     intro I7;exact absurd hm I7
    ·have h0:(es.take (hi'.getD (es.length:Int)).toNat).drop (lo'.getD 0).toNat=[]:=yaa (by omega)
     show Ta _ _ _;have:=Ta.lit (R:=R) sz ((es.take (hi'.getD (es.length:Int)).toNat).drop (lo'.getD 0).toNat) b o (cap - (lo'.getD 0).toNat) (by omega) hmem (by rw[h0];exact .nil _ _)
     rw[hlen] at this;exact this
   ·refine Tt.same (.slice (some ⟨b,o+(lo'.getD 0).toNat * sz,none⟩) ((hi'.getD (es.length:Int)).toNat - (lo'.getD 0).toNat) (cap - (lo'.getD 0).toNat)) hS ?_ (.atom _ _ ?_)
    ·simp[Instr.sliceAt,Instr.slice,run_underlying hut,L7,zc I8,hm,Pn]
    ·show Ta _ _ _
     have:=Ta.lit (R:=R) sz ((es.take (hi'.getD (es.length:Int)).toNat).drop (lo'.getD 0).toNat) b (o+(lo'.getD 0).toNat * sz) (cap - (lo'.getD 0).toNat) (by omega) hmem (by rw[Mz Xag,Mu c2];exact (c3.take _).drop _)
     rw[hlen] at this;exact this
  |IE _ a=>
   have e1:hi'.getD (([]:List PV).length:Int)=0:=by simp only[Dab] at h2 h3 ⊢;omega
   have e2:lo'.getD 0=0:=by omega
   have L7:=Qm (P:=P) (w:=w) (cap:=0) H8 (s8 0) true h1 h2 (by simpa using h3);have e3:hi'.getD ((0:Nat):Int)=0:=e1
   rw[e2,e3] at L7;refine Tt.same (.slice (some a) 0 0) hS ?_ (.atom _ _ (by simp only[List.take_nil,List.drop_nil];exact (show Ta R _ _ from .IE _ _)))
   simp[Instr.sliceAt,Instr.slice,run_underlying hut,L7,zc I8]
 have Yag:sz≠0->vx= .slice none 0 0->lo'.getD 0=0->hi'.getD 0=0->Zm fo B0 w R φ H P (Instr.sliceAt t vx lo hi none) (.pv .ga) H:=by
  intro K7 hv h1 h2;subst hv;obtain⟨_,el,hut,I8⟩:=hu.resolve_right (fun h=>K7 h.1)
  have L7:=Qm (P:=P) (w:=w) (len:=0) (cap:=0) H8 (s8 0) true (by omega) (by simp[h1,h2]) (by simp[h2]);rw[h1] at L7;have h2':hi'.getD ((0:Nat):Int)=0:=h2
  rw[h2'] at L7;refine Tt.same _ hS ?_ (.atom _ _ (show Ta R _ _ from .ga))
  simp at L7;simp[Instr.sliceAt,Instr.slice,run_underlying hut,L7,zc I8]
 cases hx with
 |atom x vx hx=>
  cases x with
  |pv p=>
   have hx:Ta R p vx:=hx;cases p with
   |ga=>
    simp only[ug] at h
    split at h
    ·rename_i hc
     injection h with h;subst h
     cases hx;exact Yag (by omega) rfl hc.2.1 hc.2.2
    ·cases h
   |lit s es=>
    simp only[ug] at h
    split at h
    ·rename_i hc
     obtain⟨c0,rfl,c1,c2,c3⟩:=hc;injection h with h;subst h
     exact Lac (by omega) hx c1 c2 c3
    ·cases h
   |str s=>
    simp only[ug] at h
    split at h
    ·rename_i hc
     obtain⟨c0,c1,c2,c3⟩:=hc;injection h with h;subst h
     cases hx;have hut:=(hu.resolve_left (fun h=>h.1 c0)).2
     have L7:=Qm (P:=P) (w:=w) (len:=s.size) (cap:=s.size) H8 (s8 s.size) false c1 c2 c3;refine Tt.same _ hS ?_ (.atom _ _ (show Ta R _ _ from .str _))
     simp[Instr.sliceAt,Instr.slice,run_underlying hut,L7]
    ·cases h
   |_=>simp[ug] at h
  |uq id nl s es=>
   simp only[ug] at h
   split at h
   ·rename_i hc
    obtain⟨c0,rfl,c1,c2,c3⟩:=hc;injection h with h;subst h
    cases nl with
    |true=>
     obtain⟨rfl,rfl⟩:=hx.2.1 rfl
     simp at c2 c3;refine Yag (by omega) rfl ?_ ?_ <;> omega
    |false=>exact Lac (by omega) (hx.2.2.1 rfl) c1 c2 c3
   ·cases h
  |_=>simp[ug] at h
 |_=>simp[ug] at h
end ops
end Go.AM
namespace Go.AM
open Go.RowKit
section ops
variable {P:Program}{fo:Nat->FuncId}{B0:wg}{w:World}{R:Rd}{φ:Pl}{H:List ba}{e:Tr}{a:Act}
theorem qZ{op:BinOp}{x y:AV}{vx vy:Value}{p:PV}(hx:Sc fo (K R φ H) x vx)(hy:Sc fo (K R φ H) y vy)(h:xM op x y=some p)(t:TypeId)(ox oy:Operand):
 ∃ v,(do eqGuard op t ox oy vx vy;binOp op t vx vy:Sem Value).run P w= .ok v w/\Ta R p v:=by
 have ints:∀ {k:IntKind}{m n:Int},vx= .int k m->vy= .int k n->(op≠ .shl)->(op≠ .shr)->vl op k m n=some p->∃ v,(do eqGuard op t ox oy vx vy;binOp op t vx vy:Sem Value).run P w= .ok v w/\Ta R p v:=by
  rintro k m n rfl rfl h1 h2 hb;cases op <;> simp only[vl] at hb <;> first
   |exact absurd rfl h1
   |exact absurd rfl h2
   | (cases hb;done)
   | (injection hb with hb;subst hb;exact⟨_,by simp[eqGuard,binOp,Op.intArith,Op.intBits,Op.intCmp];rfl,by constructor⟩)
   | (injection hb with hb;subst hb;exact⟨.int k _,rfl,.int _ _⟩)
   | (split at hb
      ·cases hb
      ·rename_i hn;injection hb with hb;subst hb;exact⟨_,by simp[eqGuard,binOp,Op.intDiv,hn];rfl,by constructor⟩)
 have Nac:∀ {k k':IntKind}{m n:Int},vx= .int k m->vy= .int k' n->¬n < 0->(op= .shl/\p= .int k (k.wrap (m * 2 ^ (min n.toNat k.bits))))\/(op= .shr/\p= .int k (m.fdiv (2 ^ (min n.toNat k.bits))))->
  ∃ v,(do eqGuard op t ox oy vx vy;binOp op t vx vy:Sem Value).run P w= .ok v w/\Ta R p v:=by
  rintro k k' m n rfl rfl hn hp;rcases hp with⟨rfl,rfl⟩ | ⟨rfl,rfl⟩ <;> exact⟨_,by simp[eqGuard,binOp,Op.shift,hn];rfl,by constructor⟩
 have strs:∀ {s u:ByteArray},vx= .string s->vy= .string u->OO op s u=some p->∃ v,(do eqGuard op t ox oy vx vy;binOp op t vx vy:Sem Value).run P w= .ok v w/\Ta R p v:=by
  rintro s u rfl rfl hb;cases op <;> simp only[OO] at hb <;> first
   |cases hb;done
   | (injection hb with hb;subst hb;exact⟨_,by simp[eqGuard,binOp,Op.stringOp,ByteArray.toList_eq];rfl,by constructor⟩)
   | (injection hb with hb;subst hb;rw[<- ByteArray.toList_eq,<-ByteArray.toList_eq];exact⟨.bool _,rfl,.bool _⟩)
   | (split at hb
      ·rename_i hn
       injection hb with hb;subst hb
       have hn':¬(((s.size+u.size:Nat):Int) > IntKind.i64.max):=by omega
       exact⟨_,by simp only[eqGuard,binOp,Op.stringOp,taa hn'];simp;rfl,by constructor⟩
      ·cases hb)
 unfold xM at h
 split at h
 ·split at h
  ·cases h
  ·rename_i hn
   injection h with h
   refine Nac (Je hx rfl) (Je hy rfl) hn (.inl ⟨rfl,h.symm⟩)
 ·split at h
  ·cases h
  ·rename_i hn
   injection h with h
   refine Nac (Je hx rfl) (Je hy rfl) hn (.inr ⟨rfl,h.symm⟩)
 ·rename_i h1 h2
  split at h
  ·rename_i hk
   subst hk;exact ints (Je hx rfl) (Je hy rfl) (fun e=>h1 e) (fun e=>h2 e) h
  ·cases h
 ·have h1:=hx.Sb
  have h2:=hy.Sb
  cases h1;cases h2;exact strs rfl rfl h
 ·cases h
theorem L4{op:UnOp}{x:AV}{vx:Value}{p:PV}(hx:Sc fo (K R φ H) x vx)(h:D3 op x=some p):∃ v,(Op.unary op vx).run P w= .ok v w/\Ta R p v:=by
 unfold D3 at h
 split at h
 ·injection h with h;subst h
  rw[Je hx rfl];exact⟨_,by simp[Op.unary,Op.intArith];rfl,by simpa using Ta.int _ _⟩
 ·injection h with h;subst h
  rw[YA hx rfl];exact⟨_,by simp[Op.unary];rfl,by constructor⟩
 ·injection h with h;subst h
  rw[Je hx rfl];exact⟨_,by simp[Op.unary,Op.intBits];rfl,by constructor⟩
 ·cases h
theorem CX{s d:TypeId}{ds:TypeDesc}{k k':IntKind}{n:Int}(hs:P.underlying s=some ds)(hd:P.underlying d=some (.int k)):(convert s d (.int k' n)).run P w= .ok (.int k (k.wrap n)) w:=by
 simp[convert,run_underlying hs,run_underlying hd,Conv.intToInt]
theorem BI{es:List PV}{l:List UInt8}{vs:List Value}(hb:bytesOf es=some l)(hl:Ve R es vs):∃ ns:List Int,vs=ns.map (Value.int .u8)/\l=ns.map fun n=>UInt8.ofNat n.toNat:=by
 induction es generalizing l vs with
 |nil=>simp[bytesOf] at hb;subst hb;cases hl;exact⟨[],rfl,rfl⟩
 |cons p es ih=>
  cases p with
  |int k n=>
   cases k with
   |u8=>
    simp only[bytesOf,faa] at hb;obtain⟨l',h1,rfl⟩:=hb;cases hl with
    |cons _ _ v vs h2 h3=>cases h2;obtain⟨ns,rfl,rfl⟩:=ih h1 h3;exact⟨n::ns,rfl,rfl⟩
   |_=>simp[bytesOf] at hb
  |_=>simp[bytesOf] at hb
theorem foldl_push(ns:List Int)(s:ByteArray):(ns.foldl (fun r n=>r.push (UInt8.ofNat n.toNat)) s).data.toList=s.data.toList++ns.map fun n=>UInt8.ofNat n.toNat:=by
 induction ns generalizing s with
 |nil=>simp
 |cons n ns ih=>simp[ih]
theorem aQ{es:List PV}{l:List UInt8}(h:bytesOf es=some l):flat es=es:=by
 induction es generalizing l with
 |nil=>rfl
 |cons p es ih=>
  cases p with
  |int k n=>
   cases k with
   |u8=>simp only[bytesOf,faa] at h;obtain⟨l',h1,_⟩:=h;simp[flat,PV.cells,ih h1]
   |_=>simp[bytesOf] at h
  |_=>simp[bytesOf] at h
theorem MR(hS:vc fo B0 w R φ H){es:List PV}{l:List UInt8}{vx:Value}(hp:Ta R (.lit 1 es) vx)(hb:bytesOf es=some l):(Conv.bytesToString vx).run P w= .ok (.string ⟨l.toArray⟩) w:=by
 cases hp with
 |lit _ _ b o cap h1 h2 h3=>
  obtain⟨vs,k1,k2,k3⟩:=h3.list
  rw[aQ hb] at k1;obtain⟨ns,rfl,rfl⟩:=BI hb k1;have hl:=k1.length
  have:=run_bytesToString (P:=P) w ⟨b,o,none⟩ es.length cap ns (by have:=Xl (P:=P) (w:=w) (b:=b) (o:=o) (vs:=ns.map (Value.int .u8)) (fun j v hj=>hS.sub _ _ _ (k3 j v hj)) hl;simpa using this)
  rw[this]
  congr 2
  have h4:=foldl_push ns ByteArray.empty
  generalize ns.foldl (fun r n=>r.push (UInt8.ofNat n.toNat)) ByteArray.empty=z at h4
  obtain⟨⟨z⟩⟩:=z;simp at h4;subst h4;rfl
 |IE _ a=>simp only[bytesOf,eaa] at hb;subst hb;simp[Conv.bytesToString,loadCells,loadCellsFrom];rfl
theorem NK(off:Nat):∀ (vs:List Value)(k:Nat)(cs:Array Value),((vs.zipIdx k).foldl (fun (cs:Array Value)(x:Value×Nat)=>cs.setIfInBounds (off+x.2) x.1) cs).toList=fa cs.toList (off+k) vs:=by
 intro vs
 induction vs with
 |nil=>intro k cs;simp[fa]
 |cons v vs ih=>intro k cs;simp only[List.zipIdx_cons,Aad];rw[ih];simp[fa,Nat.add_assoc]
theorem bH(place:Nat->Option (Nat×Nat)):∀ {parts:List (Nat×Value)}{aparts:List (Nat×Nat×AV)}{cs:Array Value}{acs Lad:List AV},parts.length=aparts.length->
 (∀ (j:Nat)(i:Nat)(v:Value)(off sz:Nat)(x:AV),parts[j]? =some (i,v)->aparts[j]? =some (off,sz,x)->place i=some (off,sz)/\Sc fo (K R φ H) x v)->
 mb fo (K R φ H) acs cs.toList->Yr acs aparts=some Lad->∃ D9,Instr.fill place cs parts=some D9/\mb fo (K R φ H) Lad D9.toList
 | [],[],cs,acs,Lad,_,_,hc,h=>by simp[Yr] at h;subst h;exact⟨cs,rfl,hc⟩
 | (i,v)::parts,(off,sz,x)::aparts,cs,acs,Lad,hl,hp,hc,h=>by
   obtain⟨h1,h2⟩:=hp 0 i v off sz x rfl rfl;simp only[Yr] at h
   split at h
   ·rename_i V8
    obtain⟨q1,q2,h3⟩:=V8;have hcr:=Cz h2 h3;have hlen:=hcr.length
    have O7:=hc.length
    have K7:v.cells.size=sz:=by rw[<- q1,<-hlen];simp
    have jaa:¬(v.cells.size≠sz\/off+v.cells.size > cs.size):=by
     have:cs.size=acs.length:=by rw[<- O7];simp
     omega
    have F9:mb fo (K R φ H) (fa acs off x.cells) (v.cells.zipIdx.foldl (fun (cs:Array Value)(y:Value×Nat)=>cs.setIfInBounds (off+y.2) y.1) cs).toList:=by
     have:(v.cells.zipIdx.foldl (fun (cs:Array Value)(y:Value×Nat)=>cs.setIfInBounds (off+y.2) y.1) cs).toList=fa cs.toList off v.cells.toList:=by
      have:=NK off v.cells.toList 0 cs
      rw[tae] at this;rw[<- this]
      congr 1
      rw[<- Array.foldl_toList,Array.toList_zipIdx]
     rw[this];exact hc.fa off hcr
    obtain⟨D9,r1,r2⟩:=bH place (parts:=parts) (aparts:=aparts) (by simpa using hl) (fun j i v off sz x e1 e2=>hp (j+1) i v off sz x (by simpa using e1) (by simpa using e2)) F9 h;refine⟨D9,?_,r2⟩;simp only[Instr.fill,h1];rw[taa (by simpa using jaa)];exact r1
   ·cases h
 | [],_::_,_,_,_,hl,_,_,_=>by simp at hl
 |_::_,[],_,_,_,hl,_,_,_=>by simp at hl
theorem GI(place:Nat->Option (Nat×Nat)):∀ (parts:List (Nat×Value))(cs D9:Array Value),Instr.fill place cs parts=some D9->D9.size=cs.size
 | [],cs,D9,h=>by simp[Instr.fill] at h;rw[h]
 | (i,v)::parts,cs,D9,h=>by
   simp only[Instr.fill] at h
   split at h
   ·cases h
   ·split at h
    ·cases h
    ·rw[GI place parts _ _ h]
     have key:∀ (l:List (Value×Nat))(cs:Array Value)(off:Nat),(l.foldl (fun (cs:Array Value)(x:Value×Nat)=>cs.setIfInBounds (off+x.2) x.1) cs).size=cs.size:=by
      intro l
      induction l with
      |nil=>intro cs off;rfl
      |cons x l ih=>intro cs off;simp only[Aad];rw[ih];simp
     rw[<- Array.foldl_toList];exact key _ _ _
end ops
end Go.AM
namespace Go.AM
open Go.RowKit
def Ls(zs:List Value):Nat->List Value
 |0=>[]
 |n+1=>zs++Ls zs n
theorem It(zs:List Value)(n:Nat):(Ls zs n).length=n * zs.length:=by
 induction n with
 |zero=>simp[Ls]
 |succ n ih=>simp[Ls,ih,Nat.add_mul];omega
theorem KW(zs:List Value)(m n:Nat):Ls zs (m+n)=Ls zs m++Ls zs n:=by
 induction m with
 |zero=>simp[Ls]
 |succ m ih=>rw[Nat.add_right_comm];simp[Ls,ih]
theorem dW(zs:List Value)(h0:0 < zs.length):∀ (n i:Nat),i < n * zs.length->(Ls zs n)[i]? =zs[i % zs.length]? :=by
 intro n
 induction n with
 |zero=>intro i hi;simp at hi
 |succ n ih=>
  intro i hi;simp only[Ls]
  by_cases hlt:i < zs.length
  ·rw[gaa hlt,Jae hlt]
  ·rw[Paa (by omega),ih _ (by rw[Nat.add_mul] at hi;omega)]
   rw[Nat.mod_eq_sub_mod (by omega:i>=zs.length)]
theorem WJ(z:Array Value)(n sz:Nat)(hz:z.size=sz)(h0:0 < sz):((Array.range (n * sz)).map fun i=>z[i % z.size]!).toList=Ls z.toList n:=by
 apply Vab;intro i
 by_cases hi:i < n * sz
 ·rw[dW _ (by simpa[hz] using h0) _ _ (by simpa[hz] using hi)]
  have hm:i % sz < z.size:=by rw[hz];exact Gae _ h0
  simp[hi,hz];rw[getElem!_pos z _ hm,getElem?_pos z _ hm]
 ·rw[Yaa (by simp;omega),Yaa (by rw[It];simp[hz];omega)]
section ops
variable {P:Program}{fo:Nat->FuncId}{B0:wg}{w:World}{R:Rd}{φ:Pl}{H:List ba}{e:Tr}{a:Act}
theorem NF{zero:List PV}{zs:List Value}(h:Ve R zero zs):∀ n,mb fo (K R φ H) (Ml zero n) (Ls zs n)
 |0=> .nil
 |n+1=>(mb.RG h).append (NF h n)
theorem UM{zero:List PV}(h:(zero.map AV.pv).all AV.one=true):∀ n,(Ml zero n).all AV.one=true
 |0=>rfl
 |n+1=>by simp only[Ml,List.all_append,daa];exact⟨h,UM h n⟩
structure KV(P:Program)(el:TypeId)(sz:Nat)(ag:Bool)(zero:List PV):Prop where
 wv:Ud P el=some sz
 pos:0 < sz
 aX:ag=false->sz=1
 hz:tw P el zero=true
 GX:zero.length=sz
theorem KV.zero{el:TypeId}{sz:Nat}{ag:Bool}{zero:List PV}(h:KV P el sz ag zero):∃ i z,P.info? el=some i/\i.zero=some z/\z.cells.size=sz/\Ve R zero z.cells.toList/\(zero.map AV.pv).all AV.one=true:=by
 have hz:=h.hz
 unfold tw at hz;cases hi:P.info? el with
 |none=>simp[hi] at hz
 |some i=>
  simp only[hi] at hz;cases hzz:i.zero with
  |none=>simp[hzz] at hz
  |some z=>
   simp only[hzz] at hz;obtain⟨h1,h2⟩:=Io (R:=R) hz;have:=h1.length
   exact⟨i,z,rfl,hzz,by rw[<- h.GX,<-this];simp,h1,h2⟩
theorem HP(hS:vc fo B0 w R φ H){t el:TypeId}{sz len:Nat}{ag:Bool}{zero:List PV}(hu:P.underlying t=some (.slice el))(hE:KV P el sz ag zero)(Gad:len * sz<=2 ^ 24)
 {parts:List (Nat×Value)} {aparts:List (Nat×Nat×AV)} (hl:parts.length=aparts.length)
 (hp:∀ (j:Nat)(i:Nat)(v:Value)(off s:Nat)(x:AV),parts[j]? =some (i,v)->aparts[j]? =some (off,s,x)->off=i * sz/\s=sz/\Sc fo (K R φ H) x v)
 {hold:Zf} {cs:List AV} (hf:Yr (Ml zero len) aparts=some cs) (R7:cs.all AV.one=true) {v:AV} {H':List ba} (hfr:fresh H hold sz ag len cs=some (v,H')):
 Zm fo B0 w R φ H P (Instr.buildSlice t len parts.toArray) v H':=by
 obtain⟨i,z,hi,hz,hzs,hzr,hz1⟩:=hE.zero (R:=R)
 have j8:=hE.pos
 have hzero:(if len * sz=0 then (pure #[]:Sem (Array Value)) else do pure (<- zeroValue el).cells).run P w= .ok (if len * sz=0 then #[] else z.cells) w:=by
  by_cases h0:len * sz=0
  ·simp[h0]
  ·simp[h0,zeroValue,run_typeInfo w hi,hz]
 have aah:mb fo (K R φ H) (Ml zero len) ((Array.range (len * sz)).map fun i=>(if len * sz=0 then #[] else z.cells)[i % (if len * sz=0 then #[] else z.cells).size]!).toList:=by
  by_cases h0:len * sz=0
  ·have:len=0:=by
    rcases Pad.1 h0 with h | h
    ·exact h
    ·omega
   subst this;simpa[Ml] using mb.nil
  ·simp only[taa h0]
   rw[WJ _ _ _ hzs j8];exact NF hzr _
 obtain⟨D9,Maa,hrel⟩:=bH (fo:=fo) (R:=R) (φ:=φ) (H:=H) (fun i=>some (i * sz,sz)) hl (fun j i v off s x e1 e2=>by obtain⟨q1,q2,q3⟩:=hp j i v off s x e1 e2;subst q1 q2;exact⟨rfl,q3⟩) aah hf
 have hlen:cs.length=len * sz:=by
  rw[<- hrel.length];have:D9.size=len * sz:=by have h1:=GI (fun i=>some (i * sz,sz)) _ _ _ Maa;rw[h1];simp
  simpa using this
 have:=XC (w':={w with heap:=w.heap.push (.cells ⟨D9.toList++[]⟩ el (0,0))}) hS (rest:=[]) hrel R7 j8 (n:=len) (cap:=len) (by rw[hrel.length,hlen]) (by simp;rw[<- hlen,<-hrel.length];simp) hE.aX (fun o _ h=>by omega) rfl rfl rfl rfl hfr
 have hle:¬(len * sz > 2 ^ 24):=by omega
 have L7:(Instr.buildSlice t len parts.toArray).run P w= .ok (.slice (some ⟨w.heap.size,0,none⟩) len len) {w with heap:=w.heap.push (.cells ⟨D9.toList++[]⟩ el (0,0))}:=by
  have V7:parts.toArray.toList=parts:=by simp
  by_cases h0:len * sz=0
  ·simp only[if_pos h0] at Maa
   simp only[Instr.buildSlice,Sem.run_bind,run_underlying hu,Result.andThen_ok,zc hE.wv,Sem.run_ite,hle,if_false,Sem.run_pure,if_pos h0,V7,Maa];simp[newRow]
  ·simp only[taa h0] at Maa
   simp only[Instr.buildSlice,Sem.run_bind,run_underlying hu,Result.andThen_ok,zc hE.wv,Sem.run_ite,hle,if_false,Sem.run_pure,taa h0,V7,zeroValue,run_typeInfo w hi,hz,Maa];simp[newRow]
 rw[Zm,L7];exact this
theorem xS{n:Int}(h0:0<=n)(h:n<=9223372036854775807):IntKind.i64.wrap n=n:=IntWalk.i64_in _ (by omega)
theorem WN(hS:vc fo B0 w R φ H){t el:TypeId}{sz bytes:Nat}{ag:Bool}{zero:List PV}(hu:P.underlying t=some (.slice el))(hE:KV P el sz ag zero)(hby:Sq P el=some bytes)(hb0:0 < bytes)
 {k k':IntKind} {l c:Int} (h0:0<=l) (h1:l<=c) (h2:c.toNat * bytes<=140737488355328) {hold:Zf} {v:AV} {H':List ba} (hfr:fresh H hold sz ag l.toNat (Ml zero l.toNat)=some (v,H')):
 Zm fo B0 w R φ H P (Instr.makeSlice t (.int k l) (.int k' c)) v H':=by
 obtain⟨i,z,hi,hz,hzs,hzr,hz1⟩:=hE.zero (R:=R)
 have j8:=hE.pos
 unfold Sq at hby;simp only[hi,Kaa,eaa] at hby;have hcb:(c.toNat:Int)=c:=by omega
 have fan:c.toNat<=c.toNat * bytes:=Nat.le_mul_of_pos_right _ hb0
 have vaj:c<=9223372036854775807:=by omega
 have hwl:=xS h0 (by omega:l<=9223372036854775807);have hwc:=xS (by omega:0<=c) vaj;have Mad:¬((bytes:Int) * c > 2 ^ 48):=by
  have:(bytes:Int) * c=((c.toNat * bytes:Nat):Int):=by rw[Nat.mul_comm];push_cast;rw[hcb]
  rw[this];omega
 have Fal:¬((bytes:Int) * c > 281474976710656):=by simpa using Mad
 obtain⟨d,hd⟩:∃ d:Nat,c.toNat=l.toNat+d:=⟨c.toNat - l.toNat,by omega⟩
 have hzero:(if c.toNat * sz=0 then (pure #[]:Sem (Array Value)) else do pure (<- zeroValue el).cells).run P w= .ok (if c.toNat * sz=0 then #[] else z.cells) w:=by
  by_cases h0:c.toNat * sz=0
  ·simp[h0]
  ·simp[h0,zeroValue,run_typeInfo w hi,hz]
 have iaa:((Array.range (c.toNat * sz)).map fun i=>(if c.toNat * sz=0 then #[] else z.cells)[i % (if c.toNat * sz=0 then #[] else z.cells).size]!)=⟨Ls z.cells.toList l.toNat++Ls z.cells.toList d⟩:=by
  apply Qac;show _=Ls z.cells.toList l.toNat++Ls z.cells.toList d
  rw[<- KW,<-hd]
  by_cases h0:c.toNat * sz=0
  ·have:c.toNat=0:=by
    rcases Pad.1 h0 with h | h
    ·exact h
    ·omega
   rw[this];simp[Ls]
  ·simp only[taa h0]
   exact WJ _ _ _ hzs j8
 have GX:z.cells.toList.length=sz:=by simpa using hzs
 have:=XC (w':={w with heap:=w.heap.push (.cells ⟨Ls z.cells.toList l.toNat++Ls z.cells.toList d⟩ el (0,0))}) hS (rest:=Ls z.cells.toList d) (NF (fo:=fo) (φ:=φ) (H:=H) hzr l.toNat) (UM hz1 _) j8 (n:=l.toNat) (cap:=c.toNat)
  (by rw[It,GX]) (by rw[Aaa,It,It,GX,hd,Nat.add_mul]) hE.aX (fun o _ h=>by omega) rfl rfl rfl rfl hfr
 have L7:(Instr.makeSlice t (.int k l) (.int k' c)).run P w= .ok (.slice (some ⟨w.heap.size,0,none⟩) l.toNat c.toNat) {w with heap:=w.heap.push (.cells ⟨Ls z.cells.toList l.toNat++Ls z.cells.toList d⟩ el (0,0))}:=by
  have hn1:¬(c < 0):=by omega
  have hn2:¬(l < 0):=by omega
  have hn3:¬(l > c):=by omega
  have C8:((decide (c < 0)||decide ((bytes:Int) * c > 2 ^ 48))||decide (l < 0)||decide (l > c))=false:=by simp only[hn1,hn2,hn3,Mad,decide_false,nae]
  by_cases h0:c.toNat * sz=0
  ·simp only[if_pos h0] at iaa
   simp only[Instr.makeSlice,Sem.run_bind,run_underlying hu,Result.andThen_ok,Go.asInt,asIntOf,Sem.run_pure,run_typeInfo w hi,hwl,hwc,hby,C8,Baa,if_false,run_askRoom,zc hE.wv,Sem.run_ite,if_pos h0,iaa,newRow,run_newObj]
  ·simp only[taa h0] at iaa
   simp only[Instr.makeSlice,Sem.run_bind,run_underlying hu,Result.andThen_ok,Go.asInt,asIntOf,Sem.run_pure,run_typeInfo w hi,hwl,hwc,hby,C8,Baa,if_false,run_askRoom,zc hE.wv,Sem.run_ite,taa h0,zeroValue,hz,iaa,newRow,run_newObj]
 rw[Zm,L7];exact this
end ops
end Go.AM
namespace Go.AM
open Go.RowKit
section ops
variable {P:Program}{fo:Nat->FuncId}{B0:wg}{w:World}{R:Rd}{φ:Pl}{H:List ba}{e:Tr}{a:Act}
theorem zN(hS:vc fo B0 w R φ H){t tx ty el:TypeId}{sz bytes:Nat}(hA:VR P t tx el sz bytes){ys:List PV}{vx:Value}{x:AV}(hx:Sc fo (K R φ H) x vx)(hy:Kf sz x=some ys)
 (hroomb:ys.length * bytes<=140737488355328) {hold:Zf} {v:AV} {H':List ba}
 (h:Oq H hold sz ys=some (v,H')):Zm fo B0 w R φ H P (Builtin.append_ #[t,tx] ty #[.slice none 0 0,vx]) v H':=by
 obtain⟨news,hl,X7,hey⟩:=nL (P:=P) hS hx hy;obtain⟨dx,hux,hdx⟩:=hA.hx
 cases ys with
 |nil=>have Iaa:news=[]:=yaa (by rw[X7.num];simp);subst Iaa;simp[Oq] at h;obtain⟨rfl,rfl⟩:=h;exact Tt.same _ hS (run_append_nil (ty:=ty) hA.hu hux hdx hA.wv X7) (.atom _ _ (show Ta R _ _ from .ga))
 |cons y ys=>
  obtain⟨C,rest,w',L7,hC,raa,hheap,hos,htape,y8⟩:=run_append_grow (ty:=ty) (n0:=0) (cap:=0) (olds:=[]) (base:=none) hA.hu hux hdx hA.wv hA.rK hA.pos hA.hzero X7 (fun d=>by simp[Builtin.firstCells]) (by simp) (by simpa using hroomb)
  rw[Zm,L7];simp only[eab,cab] at hC raa hheap ⊢;have jaa:(news++rest).length=C * sz:=by rw[Aaa,X7.num,raa,<-Nat.add_mul];congr 1;omega
  have:=zD (fo:=fo) (B0:=B0) hS hl X7.one hA.pos' hey jaa (fun o _ h=>by omega) hheap hos htape y8
  cases hold with
  |lit=>simp only[Oq,eaa,vaa] at h;obtain⟨rfl,rfl⟩:=h;exact this.1
  |uq=>simp only[Oq,eaa,vaa] at h;obtain⟨rfl,rfl⟩:=h;exact this.2
  |own=>simp[Oq] at h
theorem dZ(hS:vc fo B0 w R φ H){s d el:TypeId}{ds:TypeDesc}(hs:P.underlying s=some ds)(hd:P.underlying d=some (.slice el))(he:P.underlying el=some (.int .u8)){b:ByteArray}
 {hold:Zf} {v:AV} {H':List ba} (hfr:fresh H hold 1 false b.size (b.data.toList.map fun x=>AV.pv (.int .u8 x.toNat))=some (v,H')):
 Zm fo B0 w R φ H P (convert s d (.string b)) v H':=by
 have hbl:b.data.toList.length=b.size:=by rw[zad];rfl
 have xaa:(Question.appendCap b.size 0 el).forced=false:=rfl
 have K8:b.size<=(Question.appendCap b.size 0 el).cut (w.tape w.drawn (.appendCap b.size 0 el)):=by simp only[Question.cut];omega
 have hch:(choose (.appendCap b.size 0 el)).run P w= .ok ((Question.appendCap b.size 0 el).cut (w.tape w.drawn (.appendCap b.size 0 el))) (wd w (w.drawn+1)):=by simp[xaa];rfl
 generalize (Question.appendCap b.size 0 el).cut (w.tape w.drawn (.appendCap b.size 0 el))=C at hch K8
 have hvs:mb fo (K R φ H) (b.data.toList.map fun x=>AV.pv (.int .u8 x.toNat)) (b.data.toList.map fun x=>Value.int .u8 x.toNat):=mb.S3 _ fun x _=> .atom _ _ (show Ta R _ _ from .int _ _)
 have h1:(b.data.toList.map fun x=>AV.pv (.int .u8 x.toNat)).all AV.one=true:=by rw[aab];intro x hx;simp only[oab] at hx;obtain⟨y,_,rfl⟩:=hx;rfl
 have iaa:(b.data.map fun x=>Value.int .u8 x.toNat)++Array.replicate (C - b.size) (Value.int .u8 0)=⟨(b.data.toList.map fun x=>Value.int .u8 x.toNat)++List.replicate (C - b.size) (Value.int .u8 0)⟩:=by apply Qac;simp
 have hlen:((b.data.toList.map fun x=>Value.int .u8 x.toNat)++List.replicate (C - b.size) (Value.int .u8 0)).length=C * 1:=by rw[Aaa,paa,hbl,cac];omega
 have:=XC (w':={wd w (w.drawn+1) with heap:=w.heap.push (.cells ⟨(b.data.toList.map fun x=>Value.int .u8 x.toNat)++List.replicate (C - b.size) (Value.int .u8 0)⟩ el (C,C+1))}) hS (rest:=List.replicate (C - b.size) (Value.int .u8 0)) hvs h1 (sz:=1) (n:=b.size) (cap:=C) (by omega)
  (by rw[paa,hbl];omega) hlen (fun _=>rfl) (fun o ho h=>by rw[hlen] at ho;simp at h;omega) rfl rfl rfl rfl hfr
 have L7:(convert s d (.string b)).run P w= .ok (.slice (some ⟨w.heap.size,0,none⟩) b.size C) {wd w (w.drawn+1) with heap:=w.heap.push (.cells ⟨(b.data.toList.map fun x=>Value.int .u8 x.toNat)++List.replicate (C - b.size) (Value.int .u8 0)⟩ el (C,C+1))}:=by
  have maf:World.shape? {wd w (w.drawn+1) with heap:=w.heap.push (.cells ⟨(b.data.toList.map fun x=>Value.int .u8 x.toNat)++List.replicate (C - b.size) (Value.int .u8 0)⟩ el)} w.heap.size=some (el,C):=by simp[World.shape?];omega
  have Nad:World.freeze {wd w (w.drawn+1) with heap:=w.heap.push (.cells ⟨(b.data.toList.map fun x=>Value.int .u8 x.toNat)++List.replicate (C - b.size) (Value.int .u8 0)⟩ el)} ⟨w.heap.size,C,none⟩ 1=
   {wd w (w.drawn+1) with heap:=w.heap.push (.cells ⟨(b.data.toList.map fun x=>Value.int .u8 x.toNat)++List.replicate (C - b.size) (Value.int .u8 0)⟩ el (C,C+1))}:=by
   simp only[World.freeze];rw[taa (by omega)]
   congr 1
   apply Array.ext_getElem?
   intro i;rw[sad,Array.getElem?_push,Array.getElem?_push]
   by_cases hi:i=w.heap.size
   ·subst hi;simp
   ·simp[hi,rac hi]
  have bah:(Conv.stringToBytes el b).run P w= .ok (.slice (some ⟨w.heap.size,0,none⟩) b.size C) {wd w (w.drawn+1) with heap:=w.heap.push (.cells ⟨(b.data.toList.map fun x=>Value.int .u8 x.toNat)++List.replicate (C - b.size) (Value.int .u8 0)⟩ el (C,C+1))}:=by simp only[Conv.stringToBytes,Sem.run_bind,hch,Result.andThen_ok,newRow,iaa,run_newObj,Sem.run_pure,markStringish,run_shape];rw[show (wd w (w.drawn+1)).heap=w.heap from rfl];simp only[maf,run_freeze,Result.andThen_ok,Nad]
  cases ds <;> simp[convert,run_underlying hs,run_underlying hd,run_underlying he,bah]
 rw[Zm,L7];exact this
theorem Iu{t:TypeId}{ag:Bool}{n off:Nat}{cs:Array Value}(ha:Hm P t=some ag)(hn:ag=true->Ud P t=some n)(hv:ag=false->∃ v,cs[off]? =some v):
 (part t cs off).run P w= .ok (if ag then .agg (cs.extract off (off+n)) else cs.getD off undef) w:=by
 cases ag with
 |true=>simp[part,Ww ha,zc (hn rfl)]
 |false=>obtain⟨v,hv⟩:=hv rfl;simp[part,Ww ha,hv,qab]
theorem kN(hS:vc fo B0 w R φ H){t:TypeId}{ag:Bool}{n off:Nat}{cs:List PV}{vs:List Value}(ha:Hm P t=some ag)(hn:ag=true->Ud P t=some n)(hl:Ve R cs vs){p:PV}(hp:Im ag n cs off=some p):
 Zm fo B0 w R φ H P (part t ⟨vs⟩ off) (.pv p) H:=by
 cases ag with
 |true=>
  simp only[Im,if_true] at hp
  split at hp
  ·injection hp with hp;subst hp
   refine Tt.same _ hS (Iu ha hn (fun h=>by cases h)) (.atom _ _ ?_)
   show Ta _ _ _;have:(⟨vs⟩:Array Value).extract off (off+n)=⟨(vs.drop off).take n⟩:=by apply Qac;simp[List.extract_eq_take_drop]
   simp only[if_true,this];exact .agg _ _ ((hl.drop off).take n)
  ·cases hp
 |false=>
  simp only[Im,Baa,if_false] at hp;obtain⟨v,hv,h2⟩:=hl.get hp
  refine Tt.same v hS ?_ (.atom _ _ h2)
  rw[Iu (cs:=⟨vs⟩) ha hn (fun _=>⟨v,by simpa using hv⟩)];simp[qab,hv]
theorem iN(hS:vc fo B0 w R φ H){t:TypeId}{ag:Bool}{n off:Nat}{cs:List AV}{vs:List Value}(ha:Hm P t=some ag)(hn:ag=true->Ud P t=some n)(hl:mb fo (K R φ H) cs vs){p:AV}(hp:Lh ag n cs off=some p):
 Zm fo B0 w R φ H P (part t ⟨vs⟩ off) p H:=by
 cases ag with
 |true=>
  simp only[Lh,if_true] at hp
  split at hp
  ·injection hp with hp;subst hp
   refine Tt.same _ hS (Iu ha hn (fun h=>by cases h)) ?_
   have:(⟨vs⟩:Array Value).extract off (off+n)=⟨(vs.drop off).take n⟩:=by apply Qac;simp[List.extract_eq_take_drop]
   simp only[if_true,this];exact Lz ((hl.drop off).take n)
  ·cases hp
 |false=>
  simp only[Lh,Baa,if_false] at hp;obtain⟨v,hv,h2⟩:=hl.get hp
  refine Tt.same v hS ?_ h2
  rw[Iu (cs:=⟨vs⟩) ha hn (fun _=>⟨v,by simpa using hv⟩)];simp[qab,hv]
theorem pR{x:AV}{vx:Value}(hx:Sc fo (K R φ H) x vx):(∀ cs,x= .pv (.agg cs)->∃ vs,vx= .agg ⟨vs⟩/\Ve R cs vs)/\(∀ cs,x= .agg cs->∃ vs,vx= .agg ⟨vs⟩/\mb fo (K R φ H) cs vs):=by
 constructor
 ·rintro cs rfl
  have:=hx.Sb
  cases this with | agg _ vs h=>exact⟨vs,rfl,h⟩
 ·rintro cs rfl
  cases hx with
  |atom _ _ h=>exact h.elim
  |agg _ vs h=>exact⟨vs,rfl,h⟩
theorem IZ{x:AV}{vx:Value}(hx:Sc fo (K R φ H) x vx):(∀ cs,x= .pv (.mc cs)->∃ vs,vx= .tuple ⟨vs⟩/\Ve R cs vs)/\(∀ cs,x= .mc cs->∃ vs,vx= .tuple ⟨vs⟩/\mb fo (K R φ H) cs vs):=by
 constructor
 ·rintro cs rfl
  have:=hx.Sb
  cases this with | mc _ vs h=>exact⟨vs,rfl,h⟩
 ·rintro cs rfl
  cases hx with
  |atom _ _ h=>exact h.elim
  |mc _ vs h=>exact⟨vs,rfl,h⟩
theorem ZL(mx:Bool):∀ {xs:List AV}{vs:List Value}{k:IntKind}{x:Int}{p:PV},mb fo (K R φ H) xs vs->Ye mx k x xs=some p->∃ v,(vs.foldlM (if mx then Builtin.max2 else Builtin.min2) (.int k x)).run P w= .ok v w/\Ta R p v
 | [],_,k,x,p,h,hb=>by cases h;simp[Ye] at hb;subst hb;exact⟨.int k x,by simp,.int _ _⟩
 | .pv (.int k' y)::xs,_,k,x,p,h,hb=>by
   cases h with
   |cons _ _ v vs h1 h2=>rw[Je h1 rfl];simp only[Ye] at hb;obtain⟨u,q1,q2⟩:=ZL mx h2 hb;refine⟨u,?_,q2⟩;rw[<- q1];cases mx <;> simp[List.foldlM_cons,Builtin.max2,Builtin.min2]
 | .pv (.bool _)::_,_,_,_,_,_,hb=>by simp[Ye] at hb
 | .pv (.str _)::_,_,_,_,_,_,hb=>by simp[Ye] at hb
 | .pv .qf::_,_,_,_,_,_,hb=>by simp[Ye] at hb
 | .pv .ga::_,_,_,_,_,_,hb=>by simp[Ye] at hb
 | .pv .nw::_,_,_,_,_,_,hb=>by simp[Ye] at hb
 | .pv .Pw::_,_,_,_,_,_,hb=>by simp[Ye] at hb
 | .pv .PB::_,_,_,_,_,_,hb=>by simp[Ye] at hb
 | .pv (.rp _ _)::_,_,_,_,_,_,hb=>by simp[Ye] at hb
 | .pv (.lit _ _)::_,_,_,_,_,_,hb=>by simp[Ye] at hb
 | .pv (.agg _)::_,_,_,_,_,_,hb=>by simp[Ye] at hb
 | .pv (.mc _)::_,_,_,_,_,_,hb=>by simp[Ye] at hb
 | .pv (.iface _ _)::_,_,_,_,_,_,hb=>by simp[Ye] at hb
 | .ptr _ _::_,_,_,_,_,_,hb=>by simp[Ye] at hb
 | .Ec _ _ _::_,_,_,_,_,_,hb=>by simp[Ye] at hb
 | .uq _ _ _ _::_,_,_,_,_,_,hb=>by simp[Ye] at hb
 | .own _ _::_,_,_,_,_,_,hb=>by simp[Ye] at hb
 | .Ol _ _::_,_,_,_,_,_,hb=>by simp[Ye] at hb
 | .mp _::_,_,_,_,_,_,hb=>by simp[Ye] at hb
 | .agg _::_,_,_,_,_,_,hb=>by simp[Ye] at hb
 | .mc _::_,_,_,_,_,_,hb=>by simp[Ye] at hb
 | .undef::_,_,_,_,_,_,hb=>by simp[Ye] at hb
end ops
end Go.AM
