/- An abstract machine for the code of Go functions, and what each of its operations means in the model. -/
import Derived.WalkKit
import Derived.Orders
import Derived.KernelRfl
namespace Go
theorem Pk:type_of% @Array.ext':=@Array.ext'
theorem Sm:type_of% @Array.getD_eq_getD_getElem?:=@Array.getD_eq_getD_getElem?
theorem MJ:type_of% @Array.getElem?_eq_getElem:=@Array.getElem?_eq_getElem
theorem NJ:type_of% @Array.getElem?_eq_none:=@Array.getElem?_eq_none
theorem HF:type_of% @Array.getElem?_eq_some_iff:=@Array.getElem?_eq_some_iff
theorem vC:type_of% @Array.getElem?_modify:=@Array.getElem?_modify
theorem wC:type_of% @Array.length_toList:=@Array.length_toList
theorem fb:type_of% @Bool.and_eq_true:=@Bool.and_eq_true
theorem vz:type_of% @Bool.and_self:=@Bool.and_self
theorem wz:type_of% @Bool.and_true:=@Bool.and_true
theorem yC:type_of% @Bool.eq_iff_iff:=@Bool.eq_iff_iff
theorem Ko:type_of% @Bool.false_and:=@Bool.false_and
theorem Sc:type_of% @Bool.false_eq_true:=@Bool.false_eq_true
theorem Xw:type_of% @Bool.false_or:=@Bool.false_or
theorem Lo:type_of% @Bool.not_eq_true':=@Bool.not_eq_true'
theorem IF:type_of% @Bool.or_eq_false_iff:=@Bool.or_eq_false_iff
theorem Nr:type_of% @Bool.or_eq_true:=@Bool.or_eq_true
theorem xz:type_of% @Bool.or_false:=@Bool.or_false
theorem ng:type_of% @Bool.true_and:=@Bool.true_and
theorem iP:type_of% @Decidable.byContradiction:=@Decidable.byContradiction
theorem Ll:type_of% @Int.le_refl:=@Int.le_refl
theorem xx:type_of% @Int.mul_comm:=@Int.mul_comm
theorem MC:type_of% @Int.mul_le_mul_of_nonneg_left:=@Int.mul_le_mul_of_nonneg_left
theorem vK:type_of% @Int.mul_le_mul_of_nonneg_right:=@Int.mul_le_mul_of_nonneg_right
theorem NC:type_of% @Int.one_mul:=@Int.one_mul
theorem Uc:type_of% @Int.toNat_natCast:=@Int.toNat_natCast
theorem Ur:type_of% @Int.toNat_of_nonneg:=@Int.toNat_of_nonneg
theorem tm:type_of% @List.all_cons:=@List.all_cons
theorem Df:type_of% @List.all_eq_true:=@List.all_eq_true
theorem OC:type_of% @List.any_eq_true:=@List.any_eq_true
theorem Ij:type_of% @List.append_assoc:=@List.append_assoc
theorem yi:type_of% @List.append_nil:=@List.append_nil
theorem xK:type_of% @List.concat_eq_append:=@List.concat_eq_append
theorem bG:type_of% @List.cons.injEq:=@List.cons.injEq
theorem Sg:type_of% @List.cons_append:=@List.cons_append
theorem yK:type_of% @List.drop_append:=@List.drop_append
theorem Hh:type_of% @List.drop_eq_getElem_cons:=@List.drop_eq_getElem_cons
theorem Vr:type_of% @List.drop_eq_nil_of_le:=@List.drop_eq_nil_of_le
theorem Zh:type_of% @List.drop_length:=@List.drop_length
theorem uP:type_of% @List.drop_of_length_le:=@List.drop_of_length_le
theorem Nz:type_of% @List.drop_succ_cons:=@List.drop_succ_cons
theorem Un:type_of% @List.drop_zero:=@List.drop_zero
theorem Ze:type_of% @List.eq_nil_of_length_eq_zero:=@List.eq_nil_of_length_eq_zero
theorem zK:type_of% @List.eq_nil_or_concat:=@List.eq_nil_or_concat
theorem AK:type_of% @List.eq_of_mem_replicate:=@List.eq_of_mem_replicate
theorem Oz:type_of% @List.ext_getElem:=@List.ext_getElem
theorem Nl:type_of% @List.ext_getElem?:=@List.ext_getElem?
theorem yx:type_of% @List.flatMap_cons:=@List.flatMap_cons
theorem BK:type_of% @List.flatMap_nil:=@List.flatMap_nil
theorem um:type_of% @List.flatten_cons:=@List.flatten_cons
theorem PC:type_of% @List.foldl_append:=@List.foldl_append
theorem zx:type_of% @List.foldl_cons:=@List.foldl_cons
theorem sf:type_of% @List.getD_eq_getElem?_getD:=@List.getD_eq_getElem?_getD
theorem Kc:type_of% @List.getElem?_append_left:=@List.getElem?_append_left
theorem Tg:type_of% @List.getElem?_append_right:=@List.getElem?_append_right
theorem Jj:type_of% @List.getElem?_cons_succ:=@List.getElem?_cons_succ
theorem Kj:type_of% @List.getElem?_cons_zero:=@List.getElem?_cons_zero
theorem CK:type_of% @List.getElem?_drop:=@List.getElem?_drop
theorem Rb:type_of% @List.getElem?_eq_getElem:=@List.getElem?_eq_getElem
theorem dh:type_of% @List.getElem?_eq_none:=@List.getElem?_eq_none
theorem Ad:type_of% @List.getElem?_eq_some_iff:=@List.getElem?_eq_some_iff
theorem Gd:type_of% @List.getElem?_map:=@List.getElem?_map
theorem Pz:type_of% @List.getElem?_range:=@List.getElem?_range
theorem ze:type_of% @List.getElem?_set_ne:=@List.getElem?_set_ne
theorem Of:type_of% @List.getElem?_set_self:=@List.getElem?_set_self
theorem wm:type_of% @List.getElem?_take:=@List.getElem?_take
theorem Qz:type_of% @List.getElem?_take_of_lt:=@List.getElem?_take_of_lt
theorem cG:type_of% @List.getElem_map:=@List.getElem_map
theorem ic:type_of% @List.getElem_mem:=@List.getElem_mem
theorem uj:type_of% @List.getElem_of_mem:=@List.getElem_of_mem
theorem dG:type_of% @List.getElem_range:=@List.getElem_range
theorem DK:type_of% @List.getElem_set:=@List.getElem_set
theorem Pc:type_of% @List.length_append:=@List.length_append
theorem Td:type_of% @List.length_cons:=@List.length_cons
theorem uk:type_of% @List.length_drop:=@List.length_drop
theorem wb:type_of% @List.length_map:=@List.length_map
theorem Ch:type_of% @List.length_nil:=@List.length_nil
theorem Vn:type_of% @List.length_pos_iff:=@List.length_pos_iff
theorem Wn:type_of% @List.length_range:=@List.length_range
theorem Gq:type_of% @List.length_replicate:=@List.length_replicate
theorem Um:type_of% @List.length_set:=@List.length_set
theorem QC:type_of% @List.length_singleton:=@List.length_singleton
theorem ij:type_of% @List.length_take:=@List.length_take
theorem xm:type_of% @List.map_append:=@List.map_append
theorem Hq:type_of% @List.map_congr_left:=@List.map_congr_left
theorem Pf:type_of% @List.map_cons:=@List.map_cons
theorem Iq:type_of% @List.map_map:=@List.map_map
theorem gv:type_of% @List.map_nil:=@List.map_nil
theorem Sz:type_of% @List.map_replicate:=@List.map_replicate
theorem Tz:type_of% @List.map_set:=@List.map_set
theorem Bd:type_of% @List.mem_append:=@List.mem_append
theorem Ae:type_of% @List.mem_cons:=@List.mem_cons
theorem EK:type_of% @List.mem_flatten:=@List.mem_flatten
theorem Ax:type_of% @List.mem_iff_getElem?:=@List.mem_iff_getElem?
theorem Re:type_of% @List.mem_map:=@List.mem_map
theorem vj:type_of% @List.mem_of_getElem?:=@List.mem_of_getElem?
theorem No:type_of% @List.mem_of_mem_drop:=@List.mem_of_mem_drop
theorem Ot:type_of% @List.mem_of_mem_take:=@List.mem_of_mem_take
theorem Oo:type_of% @List.mem_or_eq_of_mem_set:=@List.mem_or_eq_of_mem_set
theorem Jq:type_of% @List.mem_range:=@List.mem_range
theorem ym:type_of% @List.mem_singleton:=@List.mem_singleton
theorem Kf:type_of% @List.nil_append:=@List.nil_append
theorem Vm:type_of% @List.not_mem_nil:=@List.not_mem_nil
theorem FK:type_of% @List.pairwise_append:=@List.pairwise_append
theorem eG:type_of% @List.pairwise_cons:=@List.pairwise_cons
theorem fG:type_of% @List.pairwise_iff_getElem:=@List.pairwise_iff_getElem
theorem jv:type_of% @List.range_succ:=@List.range_succ
theorem kv:type_of% @List.set_append_left:=@List.set_append_left
theorem Po:type_of% @List.set_append_right:=@List.set_append_right
theorem mv:type_of% @List.set_cons_succ:=@List.set_cons_succ
theorem Qo:type_of% @List.set_cons_zero:=@List.set_cons_zero
theorem GK:type_of% @List.take_add_one:=@List.take_add_one
theorem IK:type_of% @List.take_append:=@List.take_append
theorem Wr:type_of% @List.take_append_drop:=@List.take_append_drop
theorem gG:type_of% @List.take_append_of_le_length:=@List.take_append_of_le_length
theorem ai:type_of% @List.take_length:=@List.take_length
theorem Ih:type_of% @List.take_of_length_le:=@List.take_of_length_le
theorem RC:type_of% @List.take_succ_cons:=@List.take_succ_cons
theorem Uz:type_of% @Nat.add_sub_cancel_left:=@Nat.add_sub_cancel_left
theorem Vz:type_of% @Nat.add_zero:=@Nat.add_zero
theorem Bx:type_of% @Nat.eq_zero_or_pos:=@Nat.eq_zero_or_pos
theorem iG:type_of% @Nat.le_of_mul_le_mul_right:=@Nat.le_of_mul_le_mul_right
theorem gb:type_of% @Nat.le_refl:=@Nat.le_refl
theorem Lj:type_of% @Nat.le_trans:=@Nat.le_trans
theorem Xn:type_of% @Nat.lt_of_lt_of_le:=@Nat.lt_of_lt_of_le
theorem yd:type_of% @Nat.lt_or_ge:=@Nat.lt_or_ge
theorem SC:type_of% @Nat.lt_succ_self:=@Nat.lt_succ_self
theorem KK:type_of% @Nat.mod_eq_of_lt:=@Nat.mod_eq_of_lt
theorem Cx:type_of% @Nat.mod_lt:=@Nat.mod_lt
theorem Wz:type_of% @Nat.mul_eq_zero:=@Nat.mul_eq_zero
theorem Rt:type_of% @Nat.mul_le_mul_right:=@Nat.mul_le_mul_right
theorem Kq:type_of% @Nat.sub_self:=@Nat.sub_self
theorem Xz:type_of% @Nat.sub_zero:=@Nat.sub_zero
theorem Yz:type_of% @Nat.succ_mul:=@Nat.succ_mul
theorem De:type_of% @Nat.zero_add:=@Nat.zero_add
theorem Ql:type_of% @Nat.zero_le:=@Nat.zero_le
theorem TC:type_of% @Nat.zero_mul:=@Nat.zero_mul
theorem tf:type_of% @Ne.symm:=@Ne.symm
theorem Hd:type_of% @Option.bind_eq_some_iff:=@Option.bind_eq_some_iff
theorem Lc:type_of% @Option.bind_some:=@Option.bind_some
theorem ov:type_of% @Option.getD_some:=@Option.getD_some
theorem LK:type_of% @Option.isSome_iff_exists:=@Option.isSome_iff_exists
theorem dc:type_of% @Option.map_eq_some_iff:=@Option.map_eq_some_iff
theorem Vc:type_of% @Option.map_some:=@Option.map_some
theorem Dx:type_of% @Option.some.inj:=@Option.some.inj
theorem xb:type_of% @Option.some.injEq:=@Option.some.injEq
theorem Jb:type_of% @Prod.mk.injEq:=@Prod.mk.injEq
theorem Sa:type_of% @eq_true:=@eq_true
theorem qa:type_of% @if_neg:=@if_neg
end Go
set_option linter.unusedVariables false
set_option linter.unusedSimpArgs false
namespace Go.AM
inductive PV where
 |int (k:IntKind) (n:Int)
 |bool (b:Bool)
 |str (s:ByteArray)
 |Ic | oa | Gk | Fk | Eo
 |rp (row:List PV) (off:Nat)
 |lit (sz:Nat) (es:List PV)
 |agg (cs:List PV)
 |Ba (vs:List PV)
 |iface (t:TypeId) (v:PV)
 deriving Inhabited
def PV.cells:PV->List PV
 | .agg cs=>cs
 |v=>[v]
def flat:List PV->List PV
 | []=>[]
 |e::es=>e.cells++flat es
inductive AV where
 |pv (p:PV)
 |ptr (id off:Nat)
 |Sb (id n off:Nat)
 |uq (id:Nat) (nl:Bool) (sz:Nat) (es:List PV)
 |own (id len:Nat)
 |Ec (ix:Nat) (caps:List AV)
 |mp (id:Nat)
 |agg (cs:List AV)
 |Ba (vs:List AV)
 |undef
 deriving Inhabited
def AV.cells:AV->List AV
 | .pv p=>p.cells.map .pv
 | .agg cs=>cs
 |v=>[v]
def AV.one:AV->Bool
 | .pv (.agg _) | .pv (.Ba _) | .agg _ | .Ba _ | .undef=>false
 |_=>true
def bd:List AV->Option (List PV)
 | []=>some []
 | .pv p::r=>(bd r).map (p:: ·)
 |_=>none
def mq(cs:List AV):AV:=
 match bd cs with
 |some ps=> .pv (.agg ps)
 |none=> .agg cs
def xt(cs:List AV):AV:=
 match bd cs with
 |some ps=> .pv (.Ba ps)
 |none=> .Ba cs
inductive fa where
 |box (cells:List AV)
 |seq (sz:Nat) (ag:Bool) (cells:List AV) (fl:Nat) (nl:Bool)
 |tok (sz n:Nat) (nl:Bool)
 |map (es:List (PV×PV))
 |dead
 deriving Inhabited
inductive Tr where
 |lf
 |nd (v:AV) (a b:Tr)
def Tr.get:Tr->Nat->AV
 | .lf,_=> .undef
 | .nd v a b,k=>cond (Nat.beq k 0) v (cond (Nat.beq (k % 2) 1) (a.get (k / 2)) (b.get (k / 2 - 1)))
def Tr.pz:Nat->Tr->Nat->AV->Tr
 |0,t,_,_=>t
 |f+1,.lf,k,v=>cond (Nat.beq k 0) (.nd v .lf .lf) (cond (Nat.beq (k % 2) 1) (.nd .undef (pz f .lf (k / 2) v) .lf) (.nd .undef .lf (pz f .lf (k / 2 - 1) v)))
 |f+1,.nd u a b,k,v=>cond (Nat.beq k 0) (.nd v a b) (cond (Nat.beq (k % 2) 1) (.nd u (pz f a (k / 2) v) b) (.nd u a (pz f b (k / 2 - 1) v)))
def Tr.set(t:Tr)(k:Nat)(v:AV):Tr:=t.pz (k+1) k v
theorem Yn{a b:Nat}(h:¬a=b):Nat.beq a b=false:=by
 cases e:Nat.beq a b with
 |false=>rfl
 |true=>exact absurd (Nat.eq_of_beq_eq_true e) h
theorem GD{a b:Nat}(h:a=b):Nat.beq a b=true:=by subst h;exact Nat.beq_refl a
theorem Tr.Fag:∀ (f:Nat)(t:Tr)(k:Nat)(v:AV)(j:Nat),k < f->(t.pz f k v).get j=if j=k then v else t.get j:=by
 intro f
 induction f with
 |zero=>intro t k v j h;omega
 |succ f ih=>
  intro t k v j h;cases t with
  |lf=>
   unfold Tr.pz
   by_cases hk:k=0
   ·subst hk
    simp only[Nat.beq_refl,cond_true,Tr.get]
    by_cases hj:j=0
    ·subst hj;simp
    ·have:Nat.beq j 0=false:=Yn hj
     simp[this,hj]
   ·have vo:Nat.beq k 0=false:=Yn hk
    simp only[vo,cond_false]
    by_cases hp:k % 2=1
    ·have bl:Nat.beq (k % 2) 1=true:=GD hp
     simp only[bl,cond_true,Tr.get]
     by_cases hj:j=0
     ·subst hj;simp[tf hk]
     ·have hj':Nat.beq j 0=false:=Yn hj
      simp only[hj',cond_false]
      by_cases yn:j % 2=1
      ·have zn:Nat.beq (j % 2) 1=true:=GD yn
       simp only[zn,cond_true];rw[ih _ _ _ _ (by omega)]
       by_cases Ws:j=k
       ·subst Ws;simp
       ·have:¬j / 2=k / 2:=by omega
        simp[this,Ws,Tr.get]
      ·have zn:Nat.beq (j % 2) 1=false:=Yn yn
       have:¬j=k:=by intro e;subst e;exact yn hp
       simp[zn,this]
    ·have bl:Nat.beq (k % 2) 1=false:=Yn hp
     simp only[bl,cond_false,Tr.get]
     by_cases hj:j=0
     ·subst hj;simp[tf hk]
     ·have hj':Nat.beq j 0=false:=Yn hj
      simp only[hj',cond_false]
      by_cases yn:j % 2=1
      ·have zn:Nat.beq (j % 2) 1=true:=GD yn
       have:¬j=k:=by intro e;subst e;exact hp yn
       simp[zn,this]
      ·have zn:Nat.beq (j % 2) 1=false:=Yn yn
       simp only[zn,cond_false];rw[ih _ _ _ _ (by omega)]
       by_cases Ws:j=k
       ·subst Ws;simp
       ·have:¬j / 2 - 1=k / 2 - 1:=by omega
        simp[this,Ws,Tr.get]
  |nd u a b=>
   unfold Tr.pz
   by_cases hk:k=0
   ·subst hk
    simp only[Nat.beq_refl,cond_true,Tr.get]
    by_cases hj:j=0
    ·subst hj;simp
    ·have:Nat.beq j 0=false:=Yn hj
     simp[this,hj]
   ·have vo:Nat.beq k 0=false:=Yn hk
    simp only[vo,cond_false]
    by_cases hp:k % 2=1
    ·have bl:Nat.beq (k % 2) 1=true:=GD hp
     simp only[bl,cond_true,Tr.get]
     by_cases hj:j=0
     ·subst hj;simp[tf hk]
     ·have hj':Nat.beq j 0=false:=Yn hj
      simp only[hj',cond_false]
      by_cases yn:j % 2=1
      ·have zn:Nat.beq (j % 2) 1=true:=GD yn
       simp only[zn,cond_true];rw[ih _ _ _ _ (by omega)]
       by_cases Ws:j=k
       ·subst Ws;simp
       ·have:¬j / 2=k / 2:=by omega
        simp[this,Ws]
      ·have zn:Nat.beq (j % 2) 1=false:=Yn yn
       have:¬j=k:=by intro e;subst e;exact yn hp
       simp[zn,this]
    ·have bl:Nat.beq (k % 2) 1=false:=Yn hp
     simp only[bl,cond_false,Tr.get]
     by_cases hj:j=0
     ·subst hj;simp[tf hk]
     ·have hj':Nat.beq j 0=false:=Yn hj
      simp only[hj',cond_false]
      by_cases yn:j % 2=1
      ·have zn:Nat.beq (j % 2) 1=true:=GD yn
       have:¬j=k:=by intro e;subst e;exact hp yn
       simp[zn,this]
      ·have zn:Nat.beq (j % 2) 1=false:=Yn yn
       simp only[zn,cond_false];rw[ih _ _ _ _ (by omega)]
       by_cases Ws:j=k
       ·subst Ws;simp
       ·have:¬j / 2 - 1=k / 2 - 1:=by omega
        simp[this,Ws]
theorem Tr.na(t:Tr)(k:Nat)(v:AV)(j:Nat):(t.set k v).get j=if j=k then v else t.get j:=Tr.Fag _ _ _ _ _ (SC k)
structure St where
 env:Tr
 H:List fa
inductive AO where
 |t (n:Nat)
 |c (p:PV)
 |f (ix:Nat)
def AO.ev(e:Tr):AO->AV
 | .t n=>e.get n
 | .c p=> .pv p
 | .f ix=> .Ec ix []
inductive Qc where
 |lit | uq | own
inductive Kd where
 |one (c:Nat)
 |row (ks:List Nat)
inductive Ka where
 |move (x:AO)
 |pick (c a b:AO)
 |alloc (zero:List PV)
 |box (n:Nat) (x:AO)
 |DA (n:Nat) (x:AO)
 |build (zero:List PV) (ba:List (Nat×Nat×AO))
 |Fc (h:Qc) (sz:Nat) (ag:Bool) (len:Nat) (zero:List PV) (ba:List (Nat×AO))
 |load (ag:Bool) (n:Nat) (x:AO)
 |store (n:Nat) (a v:AO)
 |OB (x:AO)
 |bin (op:BinOp) (x y:AO)
 |eq (k:Nat) (neq:Bool) (x y:AO)
 |un (op:UnOp) (x:AO)
 |conv (k:IntKind) (x:AO)
 |aD (x:AO)
 |Ow (h:Qc) (x:AO)
 |yF (x:AO)
 |Fw (ix:Nat) (caps:List AO)
 |oj (h:Qc) (sz:Nat) (ag:Bool) (zero:List PV) (bytes:Nat) (len cap:AO)
 |slice (sz:Nat) (x:AO) (lo hi:Option AO)
 |QA (off:Nat) (x:AO)
 |gE (off:Nat) (ag:Bool) (n:Nat) (x:AO)
 |Nd (sz:Nat) (x i:AO)
 |Ry (n sz:Nat) (x i:AO)
 |Lu (n sz:Nat) (ag:Bool) (x i:AO)
 |VE (x i:AO)
 |ext (i:Nat) (x:AO)
 |len (k:Nat) (x:AO)
 |mx (xs:List AO)
 |mn (xs:List AO)
 |append (own:Bool) (h:Qc) (sz:Nat) (ag:Bool) (bytes:Nat) (s x:AO)
 |NB
 |Sv (kd:Kd) (neq:Bool) (x y:AO)
 |lookup (kn:Kd) (zero:PV) (ok:Bool) (m k:AO)
 |Cw (kn:Kd) (m k v:AO)
 |Sl (F:List PV->Option PV) (args:List AO)
 |zf (ix:Nat) (args:List AO)
 |Lx (f:AO) (args:List AO)
 |EA (ix:Nat) (args:List AO)
structure Vb where
 dst:Option Nat
 op:Ka
 guard:Option (Nat×Bool)
 pr:Bool
inductive uK where
 |Ln (t sz:Nat)
 |cF (t sz:Nat) (ag:Bool)
 |yt (t off sz:Nat)
 |JN (t off sz:Nat) (ag:Bool)
 |freeze (t:Nat)
inductive Ya where
 |skip
 |region (ops:List Vb)
 |seq (a b:Ya)
 |cond (c:AO) (a b:Ya)
 |block (id:Nat) (b:Ya)
 |scope (b:Ya)
 |loop (live:List Nat) (b:Ya)
 |ml (live:List Nat) (b:Ya)
 |exit (id:Nat)
 |ret
 |ghost (g:uK) (c:Ya)
 |range (ix:Nat) (F:List PV->Option (List (List PV))) (g:AO) (ps:List Nat) (asg:List (Nat×Nat)) (b:Ya)
 |gC (ix:Nat) (F:List PV->Option (List (List PV))) (g:AO) (ps:List Nat) (pre:List Vb) (b:Ya)
 |goto (l:Nat)
 |jumps (l:Nat) (a b:Ya)
inductive Ex where
 |norm
 |exit (id:Nat)
 |ret
 |goto (l:Nat)
inductive Bq where
 |tmp (t:Nat)
 |cell (t:Nat) (ag:Bool) (n:Nat)
structure Xa where
 np:Nat
 results:List Bq
 body:Ya
def Ha{α β:Type}(f:α->Option β):List α->Option (List β)
 | []=>some []
 |a::r=>(f a).bind fun b=>(Ha f r).bind fun bs=>some (b::bs)
def chunk(sz:Nat)(ag:Bool):Nat->List PV->List PV
 |0,_=>[]
 |n+1,cs=>((if ag then (.agg (cs.take sz)) else (cs.headD .Ic)))::chunk sz ag n (cs.drop sz)
abbrev bh(sz len fl n:Nat):Prop:=fl<=len * sz/\len * sz<=n
def qb(H:List fa):Nat->AV->Option PV
 |_,.pv p=>some p
 |_,.uq _ nl sz es=>some ((if nl then .oa else (.lit sz es)))
 |0,_=>none
 |d+1,.own id len=>
  match H[id]? with
  |some (.seq sz ag cells fl nl)=>
   (if (len * sz=cells.length/\(ag||sz==1)=true) then ((if nl then (some .oa) else ((Ha (qb H d) cells).map fun ps=> .lit sz (chunk sz ag len ps)))) else none)
  |_=>none
 |d+1,.ptr id off=>
  match H[id]? with
  |some (.box cells)=>(Ha (qb H d) cells).map fun ps=> .rp ps off
  |_=>none
 |d+1,.agg cs=>(Ha (qb H d) cs).map .agg
 |d+1,.Ba cs=>(Ha (qb H d) cs).map .Ba
 |_,_=>none
def deep:Nat:=6
def AV.free:AV->Bool
 | .pv _=>true
 | .uq _ _ _ _=>true
 |_=>false
mutual
def Eh:PV->Bool
 | .rp _ _=>false
 | .lit _ _=>false
 | .iface _ _=>false
 | .agg cs=>Gp cs
 | .Ba cs=>Gp cs
 |_=>true
def Gp:List PV->Bool
 | []=>true
 |c::cs=>Eh c&&Gp cs
end
def asInt:AV->Option (IntKind×Int)
 | .pv (.int k n)=>some (k,n)
 |_=>none
def asBool:AV->Option Bool
 | .pv (.bool b)=>some b
 |_=>none
def fO(n:Int):AV:= .pv (.int .i64 n)
def Dj(ag:Bool)(n:Nat)(cs:List PV)(off:Nat):Option PV:=
 (if ag then ((if ((off+n)<=cs.length) then (some (.agg ((cs.drop off).take n))) else none)) else cs[off]?)
def tg(ag:Bool)(n:Nat)(cs:List AV)(off:Nat):Option AV:=
 (if ag then ((if ((off+n)<=cs.length) then (some (mq ((cs.drop off).take n))) else none)) else cs[off]?)
def za{α:Type}(cs:List α)(off:Nat):List α->List α
 | []=>cs
 |v::vs=>za (cs.set off v) (off+1) vs
def wa(H:List fa)(ag:Bool)(n:Nat):AV->Option AV
 | .pv (.rp row off)=>(Dj ag n row off).map .pv
 | .ptr id off=>
   match H[id]? with
   |some (.box cells)=>tg ag n cells off
   |_=>none
 | .Sb id m off=>
   match H[id]? with
   |some (.seq _ _ cells fl _)=>(if (cells.length=m) then (tg ag n cells off) else (if fl<=m/\0 < m then ((bd (cells.take m)).bind fun ps=>(Dj ag n ps off).map .pv) else none))
   |_=>none
 |_=>none
def Db(H:List fa)(n:Nat)(p v:AV):Option (List fa):=
 (if (v.cells.length=n/\v.cells.all AV.one) then (match p with
  | .ptr id off=>
    match H[id]? with
    |some (.box cells)=>(if ((off+n)<=cells.length) then (some (H.set id (.box (za cells off v.cells)))) else none)
    |_=>none
  | .Sb id m off=>
    match H[id]? with
    |some (.seq sz ag cells _ nl)=>(if (cells.length=m/\(off+n)<=m) then (some (H.set id (.seq sz ag (za cells off v.cells) m nl))) else none)
    |_=>none
  |_=>none) else none)
def Bg(sz:Nat):AV->Option (List PV)
 | .pv .oa=>some []
 | .pv (.lit s ys)=>(if (s=sz) then (some ys) else none)
 | .pv (.str s)=>(if (sz=1) then (some (s.data.toList.map fun b=> .int .u8 b.toNat)) else none)
 | .uq _ _ s ys=>(if (s=sz) then (some ys) else none)
 |_=>none
def yk(H:List fa)(sz:Nat):AV->Option (Nat×List AV)
 | .own id len=>
   match H[id]? with
   |some (.seq s _ cells fl nl)=>(if (s=sz/\len * sz=cells.length) then (some (len,cells)) else none)
   |_=>none
 |v=>(Bg sz v).map fun ys=>(ys.length,(flat ys).map .pv)
abbrev Ac(n bytes:Nat):Prop:=n * bytes<=140737488355328
def fresh(H:List fa)(h:Qc)(sz:Nat)(ag:Bool)(n:Nat)(cells:List AV):Option (AV×List fa):=
 match h with
 | .lit=>(bd cells).map fun ps=>(.pv (.lit sz (chunk sz ag n ps)),H)
 | .uq=>(bd cells).map fun ps=>(.uq H.length false sz (chunk sz ag n ps),H++[.tok sz n false])
 | .own=>some (.own H.length n,H++[.seq sz ag cells 0 false])
def Dr(H:List fa)(h:Qc)(sz:Nat):List PV->Option (AV×List fa)
 | []=>some (.pv .oa,H)
 |y::ys=>match h with
  | .lit=>some (.pv (.lit sz (y::ys)),H)
  | .uq=>some (.uq H.length false sz (y::ys),H++[.tok sz (ys.length+1) false])
  | .own=>none
def Ud(H:List fa)(own:Bool)(h:Qc)(sz:Nat)(ag:Bool)(bytes:Nat)(s x:AV):Option (AV×List fa):=
 (if own then (match s with
  | .own id len=>
    match H[id]? with
    |some (.seq sj ag' cells fl nl)=>
     (yk H sz x).bind fun r=>
      (if (sz=sj/\(len * sz)=cells.length/\Ac (len+r.1) bytes/\r.2.all AV.one) then (some (.own id (len+r.1),H.set id (.seq sz ag' (cells++r.2) fl (nl&&(r.1==0))))) else none)
    |_=>none
  |_=>none) else (match s with
  | .uq id nl sj es=>
    match H[id]? with
    |some (.tok sz'' n _)=>
     (Bg sz x).bind fun ys=>
      (if (sz=sj/\sz=sz''/\n=es.length/\Ac (es.length+ys.length) bytes) then (some (.uq id (nl&&ys.isEmpty) sz (es++ys),H.set id (.tok sz (es.length+ys.length) (nl&&ys.isEmpty)))) else none)
    |_=>none
  | .pv .oa=>
    (Bg sz x).bind fun ys=>
     (if (Ac ys.length bytes) then Dr H h sz ys else none)
  |_=>none))
def place(H:List fa)(d:Nat):AV->Option AV
 | .pv (.rp row o)=>some (.pv (.rp row (o+d)))
 | .ptr id o=>
   match H[id]? with
   |some (.box _)=>some (.ptr id (o+d))
   |_=>none
 | .Sb id n o=>
   match H[id]? with
   |some (.seq _ _ cells fl _)=>(if cells.length=n then (some (.Sb id n (o+d))) else (if fl<=n/\0 < n then ((bd (cells.take n)).map fun _=> .Sb id n (o+d)) else none))
   |_=>none
 |_=>none
abbrev Ta(i:Int)(n:Nat):Prop:=0<=i/\i < (n:Int)
def Ua(H:List fa)(sz:Nat)(x:AV)(i:Int):Option AV:=
 match x with
 | .pv (.lit s es)=>(if (s=sz/\Ta i es.length) then (es[i.toNat]?.map fun e=> .pv (.rp e.cells 0)) else none)
 | .uq _ _ s es=>(if (s=sz/\Ta i es.length) then (es[i.toNat]?.map fun e=> .pv (.rp e.cells 0)) else none)
 | .own id len=>
   match H[id]? with
   |some (.seq s _ cells fl _)=>
    (if (s=sz/\Ta i len/\bh sz len fl cells.length) then (some (.Sb id (len * sz) (i.toNat * sz))) else none)
   |_=>none
 |_=>none
def mb(H:List fa):Nat->AV->Option Nat
 |0,.pv .oa=>some 0
 |0,.pv (.lit _ es)=>some es.length
 |1,.pv (.str s)=>some s.size
 |0,.uq _ _ _ es=>some es.length
 |0,.own id len=>
  match H[id]? with
  |some (.seq sz _ cells fl _)=>(if (bh sz len fl cells.length) then (some len) else none)
  |_=>none
 |2,.pv .Gk=>some 0
 |2,.mp id=>
  match H[id]? with
  |some (.map es)=>some es.length
  |_=>none
 |_,_=>none
def nh(H:List fa)(sz:Nat)(x:AV)(lo:Option Int)(hi:Option Int):Option AV:=
 match x with
 | .pv .oa=>(if (0 < sz/\lo.getD 0=0/\hi.getD 0=0) then (some (.pv .oa)) else none)
 | .pv (.lit s es)=>
   let l:=lo.getD 0
   let h:=hi.getD es.length
   (if (0 < sz/\s=sz/\0<=l/\l<=h/\h<=(es.length:Int)) then (some (.pv (.lit sz ((es.take h.toNat).drop l.toNat)))) else none)
 | .uq _ nl s es=>
   let l:=lo.getD 0
   let h:=hi.getD es.length
   (if (0 < sz/\s=sz/\0<=l/\l<=h/\h<=(es.length:Int)) then (some (.pv ((if nl then .oa else (.lit sz ((es.take h.toNat).drop l.toNat)))))) else none)
 | .pv (.str s)=>
   let l:=lo.getD 0
   let h:=hi.getD s.size
   (if (sz=0/\0<=l/\l<=h/\h<=(s.size:Int)) then (some (.pv (.str (s.extract l.toNat h.toNat)))) else none)
 |_=>none
def Is:Nat->PV->PV->Option Bool
 |0,.bool a,.bool b=>some (a==b)
 |1,.int k a,.int k' b=>if k=k' then some (a==b) else none
 |2,.str a,.str b=>some (a==b)
 |_,_,_=>none
def Wk:List Nat->List PV->List PV->Option Bool
 | [],[],[]=>some true
 |k::ks,x::xs,y::ys=>(Is k x y).bind fun b=>(Wk ks xs ys).map fun c=>b&&c
 |_,_,_=>none
def Sf:Kd->PV->PV->Option Bool
 | .one c,x,y=>Is c x y
 | .row ks,.agg xs,.agg ys=>Wk ks xs ys
 |_,_,_=>none
def Rj(kd:Kd)(k:PV):List (PV×PV)->Nat->Option (Option (Nat×PV))
 | [],_=>some none
 |e::r,i=>(Sf kd k e.1).bind fun b=>(if b then (some (some (i,e.2))) else (Rj kd k r (i+1)))
def Zd(H:List fa)(k:Nat)(x y:AV):Option Bool:=
 match k,x,y with
 |0,.pv (.bool a),.pv (.bool b)=>some (a==b)
 |1,.pv .Ic,.pv .Ic=>some true
 |1,.pv (.rp _ _),.pv .Ic=>some false
 |1,.pv .Ic,.pv (.rp _ _)=>some false
 |1,.ptr id _,.pv .Ic=>
  match H[id]? with
  |some (.box _)=>some false
  |_=>none
 |2,.pv .oa,.pv .oa=>some true
 |2,.pv (.lit _ _),.pv .oa=>some false
 |2,.uq _ nl _ _,.pv .oa=>some nl
 |2,.own id len,.pv .oa=>
  match H[id]? with
  |some (.seq sz _ cells _ nl)=>(if (len * sz=cells.length) then (some nl) else none)
  |_=>none
 |3,.Ec _ _,.pv .Fk=>some false
 |3,.pv .Fk,.pv .Fk=>some true
 |_,_,_=>none
def ll(op:BinOp)(k:IntKind)(x y:Int):Option PV:=
 match op with
 | .add=>some (.int k (k.wrap (x+y)))
 | .sub=>some (.int k (k.wrap (x - y)))
 | .mul=>some (.int k (k.wrap (x * y)))
 | .quo=>(if (y=0) then none else (some (.int k (k.wrap (x.tdiv y)))))
 | .rem=>(if (y=0) then none else (some (.int k (x.tmod y))))
 | .and=>some (.int k (k.wrap ((BitVec.ofInt k.bits x &&& BitVec.ofInt k.bits y).toNat)))
 | .or=>some (.int k (k.wrap ((BitVec.ofInt k.bits x ||| BitVec.ofInt k.bits y).toNat)))
 | .xor=>some (.int k (k.wrap ((BitVec.ofInt k.bits x ^^^ BitVec.ofInt k.bits y).toNat)))
 | .eql=>some (.bool (x==y))
 | .neq=>some (.bool (x != y))
 | .lss=>some (.bool (decide (x < y)))
 | .leq=>some (.bool (decide (x<=y)))
 | .gtr=>some (.bool (decide (x > y)))
 | .geq=>some (.bool (decide (x>=y)))
 |_=>none
def nV(op:BinOp)(x y:ByteArray):Option PV:=
 match op with
 | .add=>(if (((x.size+y.size:Nat):Int)<=IntKind.i64.max) then (some (.str (x++y))) else none)
 | .eql=>some (.bool (x.data.toList==y.data.toList))
 | .neq=>some (.bool (!(x.data.toList==y.data.toList)))
 | .lss=>some (.bool (Op.bytesLess x.data.toList y.data.toList))
 | .geq=>some (.bool (!(Op.bytesLess x.data.toList y.data.toList)))
 |_=>none
def Ix(op:BinOp)(x y:AV):Option PV:=
 match op,x,y with
 | .shl,.pv (.int k a),.pv (.int _ b)=>(if (b < 0) then none else (some (.int k (k.wrap (a * 2 ^ (min b.toNat k.bits))))))
 | .shr,.pv (.int k a),.pv (.int _ b)=>(if (b < 0) then none else (some (.int k (a.fdiv (2 ^ (min b.toNat k.bits))))))
 |op,.pv (.int k a),.pv (.int k' b)=>if k=k' then ll op k a b else none
 |op,.pv (.str a),.pv (.str b)=>nV op a b
 |_,_,_=>none
def tC(op:UnOp)(x:AV):Option PV:=
 match op,x with
 | .neg,.pv (.int k n)=>some (.int k (k.wrap (0 - n)))
 | .not,.pv (.bool b)=>some (.bool !b)
 | .xor,.pv (.int k n)=>some (.int k (k.wrap ((BitVec.ofInt k.bits (if k.signed then -1 else k.max) ^^^ BitVec.ofInt k.bits n).toNat)))
 |_,_=>none
def bytesOf:List PV->Option (List UInt8)
 | []=>some []
 | .int .u8 n::r=>(bytesOf r).map (UInt8.ofNat n.toNat:: ·)
 |_=>none
def Ut(H:List fa)(x:AV):Option ByteArray:=
 match x with
 | .pv .oa=>some ByteArray.empty
 | .pv (.lit 1 es)=>(bytesOf es).map fun l=>⟨l.toArray⟩
 | .uq _ _ 1 es=>(bytesOf es).map fun l=>⟨l.toArray⟩
 | .own id len=>
   match H[id]? with
   |some (.seq sz _ cells _ nl)=>
    (if sz=1/\len * sz=cells.length then (if nl then some ByteArray.empty else ((bd cells).bind bytesOf).map fun l=>⟨l.toArray⟩) else none)
   |_=>none
 |_=>none
def Rf(mx:Bool):IntKind->Int->List AV->Option PV
 |k,x,[]=>some (.int k x)
 |k,x,.pv (.int _ y)::r=>Rf mx k ((if mx then (if y > x then y else x) else (if y < x then y else x))) r
 |_,_,_=>none
def Tk(mx:Bool):List AV->Option PV
 | .pv (.int k x)::r=>Rf mx k x r
 |_=>none
def cn(cs:List AV):List (Nat×Nat×AV)->Option (List AV)
 | []=>some cs
 | (off,sz,v)::r=>(if (v.cells.length=sz/\off+sz<=cs.length/\v.cells.all AV.one) then (cn (za cs off v.cells) r) else none)
def Yf(zero:List PV):Nat->List AV
 |0=>[]
 |n+1=>zero.map .pv++Yf zero n
def AV.xi:AV->AV
 | .uq _ nl sz es=> .pv (if nl then .oa else (.lit sz es))
 |v=>v
def AV.Mi:AV->AV
 | .agg cs=>mq (cs.map AV.xi)
 |v=>v.xi
def mh(e:Tr)(x:AO):AV:=(x.ev e).Mi
mutual
def PV.same:PV->PV->Bool
 | .int k n,.int k' n'=>decide (k=k')&&decide (n=n')
 | .bool a,.bool b=>a==b
 | .str a,.str b=>decide (a=b)
 | .Ic,.Ic=>true
 | .oa,.oa=>true
 | .Gk,.Gk=>true
 | .Fk,.Fk=>true
 | .Eo,.Eo=>true
 | .rp r o,.rp r' o'=>Jr r r'&&decide (o=o')
 | .lit s e,.lit s' e'=>decide (s=s')&&Jr e e'
 | .agg a,.agg b=>Jr a b
 | .Ba a,.Ba b=>Jr a b
 | .iface t v,.iface t' v'=>decide (t=t')&&PV.same v v'
 |_,_=>false
def Jr:List PV->List PV->Bool
 | [],[]=>true
 |a::r,b::r'=>PV.same a b&&Jr r r'
 |_,_=>false
end
mutual
def AV.same:AV->AV->Bool
 | .pv p,.pv q=>p.same q
 | .ptr a b,.ptr a' b'=>decide ((a,b)=(a',b'))
 | .Sb a b c,.Sb a' b' c'=>decide ((a,b,c)=(a',b',c'))
 | .uq a n s e,.uq a' n' s' e'=>decide ((a,n,s)=(a',n',s'))&&Jr e e'
 | .own a b,.own a' b'=>decide ((a,b)=(a',b'))
 | .Ec a l,.Ec a' l'=>decide (a=a')&&Tu l l'
 | .mp a,.mp b=>decide (a=b)
 | .agg a,.agg b=>Tu a b
 | .Ba a,.Ba b=>Tu a b
 | .undef,.undef=>true
 |_,_=>false
def Tu:List AV->List AV->Bool
 | [],[]=>true
 |a::r,b::r'=>AV.same a b&&Tu r r'
 |_,_=>false
end
def fa.same:fa->fa->Bool
 | .tok _ _ _,_=>true
 | .box a,.box b=>Tu a b
 | .seq s g a f n,.seq s' g' a' f' n'=>decide ((s,g,f,n)=(s',g',f',n'))&&Tu a a'
 | .map a,.map b=>Jr (a.map (·.1)) (b.map (·.1))&&Jr (a.map (·.2)) (b.map (·.2))
 | .dead,.dead=>true
 |_,_=>false
def mC:List fa->List fa->Bool
 | [],_=>true
 |o::r,o'::r'=>o.same o'&&mC r r'
 |_,_=>false
abbrev Ab:=Nat->List AV->List fa->Option (AV×List fa)
def Ja(call:Ab)(e:Tr)(H:List fa):Ka->Option (AV×List fa)
 | .move x=>some (x.ev e,H)
 | .pick c a b=>(asBool (c.ev e)).bind fun t=>some ((if t then (a.ev e) else (b.ev e)),H)
 | .alloc zero=>some (.ptr H.length 0,H++[.box (zero.map .pv)])
 | .box n x=>(if ((x.ev e).cells.length=n/\(x.ev e).cells.all AV.one) then (some (.ptr H.length 0,H++[.box (x.ev e).cells])) else none)
 | .DA n x=>(if ((x.ev e).cells.length=n/\(x.ev e).cells.all AV.one) then ((Ha (qb [] 0) (x.ev e).cells).map fun ps=>(.pv (.rp ps 0),H)) else none)
 | .build zero ba=>(cn (zero.map .pv) (ba.map fun p=>(p.1,p.2.1,p.2.2.ev e))).map fun cs=>(mq cs,H)
 | .Fc h sz ag len zero ba=>
   (cn (Yf zero len) (ba.map fun p=>(p.1 * sz,sz,mh e p.2))).bind fun cs=>
    (if (cs.all AV.one) then (fresh H h sz ag len cs) else none)
 | .load ag n x=>(wa H ag n (x.ev e)).map fun v=>(v,H)
 | .store n a v=>(Db H n (a.ev e) (v.ev e)).map fun H'=>(.pv (.Ba []),H')
 | .OB x=>
   match x.ev e with
   | .Ec ix caps=>some (.Ec ix caps,H)
   |v=>(place H 0 v).map fun v=>(v,H)
 | .bin op x y=>(Ix op (x.ev e) (y.ev e)).map fun p=>(.pv p,H)
 | .eq k neq x y=>(Zd H k (x.ev e) (y.ev e)).map fun b=>(.pv (.bool ((if neq then (!b) else b))),H)
 | .un op x=>(tC op (x.ev e)).map fun p=>(.pv p,H)
 | .conv k x=>(asInt (x.ev e)).map fun n=>(.pv (.int k (k.wrap n.2)),H)
 | .aD x=>(Ut H (x.ev e)).map fun s=>(.pv (.str s),H)
 | .Ow h x=>
   match x.ev e with
   | .pv (.str s)=>fresh H h 1 false s.size (s.data.toList.map fun b=> .pv (.int .u8 b.toNat))
   |_=>none
 | .yF x=>
   match x.ev e with
   | .uq id false 1 es=>
     match H[id]? with
     |some (.tok 1 n false)=>(if (n=es.length) then (some (.pv (.lit 1 es),H.set id .dead)) else none)
     |_=>none
   |_=>none
 | .Fw ix caps=>some (.Ec ix (caps.map (·.ev e)),H)
 | .oj h sz ag zero bytes len cap=>
   (asInt (len.ev e)).bind fun l=>(asInt (cap.ev e)).bind fun c=>
    (if (0<=l.2/\l.2<=c.2/\Ac c.2.toNat bytes) then (fresh H h sz ag l.2.toNat (Yf zero l.2.toNat)) else none)
 | .slice sz x lo hi=>
   match lo,hi with
   |none,none=>(nh H sz (x.ev e) none none).map fun v=>(v,H)
   |some l,none=>(asInt (l.ev e)).bind fun l=>(nh H sz (x.ev e) (some l.2) none).map fun v=>(v,H)
   |none,some h=>(asInt (h.ev e)).bind fun h=>(nh H sz (x.ev e) none (some h.2)).map fun v=>(v,H)
   |some l,some h=>(asInt (l.ev e)).bind fun l=>(asInt (h.ev e)).bind fun h=>(nh H sz (x.ev e) (some l.2) (some h.2)).map fun v=>(v,H)
 | .QA off x=>(place H off (x.ev e)).map fun v=>(v,H)
 | .gE off ag n x=>
   match x.ev e with
   | .pv (.agg cs)=>(Dj ag n cs off).map fun p=>(.pv p,H)
   | .agg cs=>(tg ag n cs off).map fun p=>(p,H)
   |_=>none
 | .Nd sz x i=>(asInt (i.ev e)).bind fun i=>(Ua H sz (x.ev e) i.2).map fun v=>(v,H)
 | .Ry n sz x i=>
   (asInt (i.ev e)).bind fun i=>(if Ta i.2 n then ((place H (i.2.toNat * sz) (x.ev e)).map fun v=>(v,H)) else none)
 | .Lu n sz ag x i=>
   (asInt (i.ev e)).bind fun i=>(if (Ta i.2 n) then (match x.ev e with
    | .pv (.agg cs)=>(Dj ag sz cs (i.2.toNat * sz)).map fun p=>(.pv p,H)
    | .agg cs=>(tg ag sz cs (i.2.toNat * sz)).map fun p=>(p,H)
    |_=>none) else none)
 | .VE x i=>
   (asInt (i.ev e)).bind fun i=>
    match x.ev e with
    | .pv (.str s)=>(if (0<=i.2) then (s.data.toList[i.2.toNat]?.map fun b=>(.pv (.int .u8 b.toNat),H)) else none)
    |_=>none
 | .ext i x=>
   match x.ev e with
   | .pv (.Ba vs)=>vs[i]?.map fun p=>(.pv p,H)
   | .Ba vs=>vs[i]?.map fun p=>(p,H)
   |_=>none
 | .len k x=>(mb H k (x.ev e)).map fun (n:Nat)=>(fO (n:Int),H)
 | .mx xs=>(Tk true (xs.map (·.ev e))).map fun p=>(.pv p,H)
 | .mn xs=>(Tk false (xs.map (·.ev e))).map fun p=>(.pv p,H)
 | .append own h sz ag bytes s x=>Ud H own h sz ag bytes (s.ev e) (x.ev e)
 | .Sv kd neq x y=>
   match x.ev e,y.ev e with
   | .pv p,.pv q=>(Sf kd p q).map fun b=>(.pv (.bool ((if neq then (!b) else b))),H)
   |_,_=>none
 | .NB=>some (.mp H.length,H++[.map []])
 | .lookup kn zero ok m k=>
   match m.ev e,k.ev e with
   | .pv .Gk,.pv k=>(if ((Sf kn k k).isSome) then (some ((if ok then (.pv (.Ba [zero,.bool false])) else (.pv zero)),H)) else none)
   | .mp id,.pv k=>
     match H[id]? with
     |some (.map es)=>(if ((Sf kn k k).isSome) then ((Rj kn k es 0).map fun r=>
       match r with
       |some (_,v)=>((if ok then (.pv (.Ba [v,.bool true])) else (.pv v)),H)
       |none=>((if ok then (.pv (.Ba [zero,.bool false])) else (.pv zero)),H)) else none)
     |_=>none
   |_,_=>none
 | .Cw kn m k v=>
   match m.ev e,k.ev e,v.ev e with
   | .mp id,.pv k,.pv v=>
     match H[id]? with
     |some (.map es)=>(if ((Sf kn k k).isSome) then ((Rj kn k es 0).map fun r=>
       match r with
       |some (i,_)=>(.pv (.Ba []),H.set id (.map (es.set i (k,v))))
       |none=>(.pv (.Ba []),H.set id (.map (es++[(k,v)])))) else none)
     |_=>none
   |_,_,_=>none
 | .Sl F args=>(Ha (qb H deep) (args.map (·.ev e))).bind fun ps=>(F ps).bind fun r=>(if (((args.map (·.ev e)).all AV.free||Eh r)=true) then (some (.pv r,H)) else none)
 | .zf ix args=>call ix (args.map (·.ev e)) H
 | .Lx f args=>
   match f.ev e with
   | .Ec ix caps=>call ix (args.map (·.ev e)++caps) H
   |_=>none
 | .EA ix args=>(call ix (args.map (·.ev e)) H).bind fun r=>(if mC H r.2=true then some r else none)
def tj(e:Tr):Option (Nat×Bool)->Option Bool
 |none=>some true
 |some (t,want)=>
  match e.get t with
  | .pv (.bool b)=>some (b==want)
  | .pv (.Ba [])=>some false
  |_=>none
def wi(e:Tr)(d:Option Nat)(v:AV):Tr:=
 match d with
 |some d=>e.set d v
 |none=>e
def qq(d:Option Nat)(e:Tr):Option (AV×List fa)->Option St
 |some (v,H)=>some ⟨wi e d v,H⟩
 |none=>none
def cz(H:List fa):Option (AV×List fa)->Option (AV×List fa)
 |some (v,[])=>some (v,H)
 |_=>none
def oi(call:Ab)(e:Tr)(H:List fa)(o:Vb):Option (AV×List fa):=cond o.pr (cz H (Ja call e [] o.op)) (Ja call e H o.op)
def KA(call:Ab)(o:Vb)(s:St):Option St:=qq o.dst s.env (oi call s.env s.H o)
def qC(o:Vb)(s:St):Option St:=some ⟨wi s.env o.dst (.pv (.Ba [])),s.H⟩
def mo(f g:St->Option St)(s:St):Option Bool->Option St
 |some true=>f s
 |some false=>g s
 |none=>none
def Ph(call:Ab)(o:Vb)(s:St):Option St:=mo (KA call o) (qC o) s (tj s.env o.guard)
def Bo(f:St->Option St):Option St->Option St
 |some s=>f s
 |none=>none
def Qh(call:Ab):List Vb->St->Option St
 | [],s=>some s
 |o::r,s=>Bo (Qh call r) (Ph call o s)
def AV.cut(n:Nat):Nat->AV->Option AV
 |_,.pv p=>some (.pv p)
 |_,.ptr id off=>(if (id < n) then (some (.ptr id off)) else none)
 |_,.Sb id m off=>(if (id < n) then (some (.Sb id m off)) else none)
 |_,.uq id nl sz es=>(if (id < n) then (some (.uq id nl sz es)) else (some (.pv ((if nl then .oa else (.lit sz es))))))
 |_,.own id len=>(if (id < n) then (some (.own id len)) else none)
 |_,.mp id=>(if (id < n) then (some (.mp id)) else none)
 |_,.undef=>some .undef
 |0,_=>none
 |d+1,.Ec ix caps=>(Ha (AV.cut n d) caps).map (.Ec ix)
 |d+1,.agg cs=>(Ha (AV.cut n d) cs).map .agg
 |d+1,.Ba cs=>(Ha (AV.cut n d) cs).map .Ba
def Za(n:Nat)(e:Tr):List Nat->Option Tr
 | []=>some .lf
 |t::r=>((e.get t).cut n deep).bind fun v=>(Za n e r).map fun e'=>e'.set t v
def AV.qc(n:Nat):Nat->AV->Bool
 |_,.pv _=>true
 |_,.ptr id _=>decide (id < n)
 |_,.Sb id _ _=>decide (id < n)
 |_,.uq id _ _ _=>decide (id < n)
 |_,.own id _=>decide (id < n)
 |_,.mp id=>decide (id < n)
 |_,.undef=>true
 |0,_=>false
 |d+1,.Ec _ caps=>caps.all (AV.qc n d)
 |d+1,.agg cs=>cs.all (AV.qc n d)
 |d+1,.Ba cs=>cs.all (AV.qc n d)
def Fa(n:Nat):fa->Option fa
 | .box cells=>(Ha (AV.cut n deep) cells).map .box
 | .seq sz ag cells fl nl=>(if (cells.all (AV.qc n deep)=true) then (some (.seq sz ag cells fl nl)) else none)
 | .tok sz m nl=>some (.tok sz m nl)
 | .map es=>some (.map es)
 | .dead=>some .dead
def ta(n:Nat)(live:List Nat)(s:St):Option St:=
 (Za n s.env live).bind fun e=>(Ha (Fa n) (s.H.take n)).map fun H=>⟨e,H⟩
def Gf(e:Tr):List Nat->Tr
 | []=> .lf
 |t::r=>(Gf e r).set t (e.get t)
def tidy(live:List Nat)(s:St):St:=⟨Gf s.env live,s.H⟩
def Af(g:uK)(s:St):Option St:=
 match g with
 | .Ln t sz=>
   match s.env.get t with
   | .pv .oa=>(if 0 < sz then (some ⟨s.env.set t (.uq s.H.length true sz []),s.H++[.tok sz 0 true]⟩) else none)
   |_=>none
 | .cF t sz ag=>
   match s.env.get t with
   | .pv .oa=>(if 0 < sz then (some ⟨s.env.set t (.own s.H.length 0),s.H++[.seq sz ag [] 0 true]⟩) else none)
   |_=>none
 | .yt t off sz=>
   match s.env.get t with
   | .ptr id o=>
     match s.H[id]? with
     |some (.box cells)=>
      match cells[o+off]? with
      |some (.pv .oa)=>(if 0 < sz then (some ⟨s.env,s.H.set id (.box (cells.set (o+off) (.uq s.H.length true sz [])))++[.tok sz 0 true]⟩) else none)
      |_=>none
     |_=>none
   |_=>none
 | .JN t off sz ag=>
   match s.env.get t with
   | .ptr id o=>
     match s.H[id]? with
     |some (.box cells)=>
      match cells[o+off]? with
      |some (.pv .oa)=>(if 0 < sz then (some ⟨s.env,s.H.set id (.box (cells.set (o+off) (.own s.H.length 0)))++[.seq sz ag [] 0 true]⟩) else none)
      |_=>none
     |_=>none
   |_=>none
 | .freeze t=>
   match s.env.get t with
   | .own id len=>
     match s.H[id]? with
     |some (.seq sz ag cells _ nl)=>
      (if (len * sz=cells.length/\(ag||sz==1)=true) then ((if nl then (some ⟨s.env.set t (.pv .oa),s.H.set id .dead⟩) else ((bd cells).map fun ps=>⟨s.env.set t (.pv (.lit sz (chunk sz ag len ps))),s.H.set id .dead⟩))) else none)
     |_=>none
   | .ptr id o=>
     match s.H[id]? with
     |some (.box cells)=>(bd cells).map fun ps=>⟨s.env.set t (.pv (.rp ps o)),s.H.set id .dead⟩
     |_=>none
   |_=>none
def Ga:Nat:=18446744073709551616
def Pm(f:St->Option (Ex×St)):Option (Ex×St)->Option (Ex×St)
 |some (.norm,s)=>f s
 |r=>r
def Zj:Option St->Option (Ex×St)
 |some s=>some (.norm,s)
 |none=>none
def Sq(f g:St->Option (Ex×St))(s:St):Option Bool->Option (Ex×St)
 |some true=>f s
 |some false=>g s
 |none=>none
def Ym(id:Nat):Option (Ex×St)->Option (Ex×St)
 |some (.exit id',s)=>if id'=id then some (.norm,s) else some (.exit id',s)
 |r=>r
def Aa(f:St->Option (Ex×St))(cl:St->Option St)(s:St):Option (Ex×St):=Pm (fun s=>Zj (cl s)) (f s)
def Mb(g:St->Option (Ex×St)):Nat->St->Option (Ex×St)
 |0,_=>none
 |n+1,s=>Pm (Mb g n) (g s)
def zq(f:St->Option (Ex×St)):Option St->Option (Ex×St)
 |some s=>f s
 |none=>none
def zt:Option (Ex×St)->Option (Ex×St)
 |some (.goto _,_)=>none
 |r=>r
def cq(l:Nat)(f:St->Option (Ex×St)):Option (Ex×St)->Option (Ex×St)
 |some (.goto l',s)=>if l'=l then zt (f s) else none
 |r=>r
def om:List Nat->List PV->Tr->Tr
 |p::ps,x::xs,e=>om ps xs (e.set p (.pv x))
 |_,_,e=>e
def Xo:List (Nat×Nat)->Tr->Tr
 | [],e=>e
 | (d,t)::r,e=>Xo r (e.set d (e.get t))
def qU(n:Nat)(x:List PV):Bool:=x.length==n&&Gp x
def Qn(go:List fa->Option (Ex×List fa)):Option (Ex×St)->Option (Ex×List fa)
 |some (.norm,s)=>go s.H
 |some (.goto _,_)=>none
 |some (ex,s)=>some (ex,s.H)
 |none=>none
def Fj(f:List PV->List fa->Option (Ex×St)):List (List PV)->List fa->Option (Ex×List fa)
 | [],H=>some (.norm,H)
 |x::xs,H=>Qn (Fj f xs) (f x H)
def lz(ix:Nat)(F:List PV->Option (List (List PV)))(n:Nat):AV->Option (List (List PV))
 | .Ec i caps=>if i=ix then (bd caps).bind fun cs=>(F cs).bind fun xs=>if xs.all (qU n) then some xs else none else none
 |_=>none
def VD(e:Tr):Option (Ex×List fa)->Option (Ex×St)
 |some (ex,H)=>some (ex,⟨e,H⟩)
 |none=>none
def iz(f:Tr->List fa->Option (Ex×St))(ps:List Nat)(asg:List (Nat×Nat))(s:St):Option (List (List PV))->Option (Ex×St)
 |some xs=>VD s.env (Fj (fun x H=>f (Xo asg (om ps x s.env)) H) xs s.H)
 |none=>none
def ua(call:Ab):Ya->St->Option (Ex×St)
 | .skip,s=>some (.norm,s)
 | .region ops,s=>Zj (Qh call ops s)
 | .seq a b,s=>Pm (ua call b) (ua call a s)
 | .cond c a b,s=>Sq (ua call a) (ua call b) s (asBool (c.ev s.env))
 | .block id b,s=>Ym id (ua call b s)
 | .scope b,s=>ua call b s
 | .loop live b,s=>zq (Mb (Aa (ua call b) (ta s.H.length live)) Ga) (ta s.H.length live s)
 | .ml live b,s=>Mb (Aa (ua call b) (fun s=>some (tidy live s))) Ga (tidy live s)
 | .exit id,s=>some (.exit id,s)
 | .ret,s=>some (.ret,s)
 | .ghost g c,s=>zq (ua call c) (Af g s)
 | .range ix F g ps asg b,s=>iz (fun e H=>ua call b ⟨e,H⟩) ps asg s (lz ix F ps.length (g.ev s.env))
 | .gC ix F g ps pre b,s=>iz (fun e H=>zq (ua call b) (Qh call pre ⟨e,H⟩)) ps [] s (lz ix F ps.length (g.ev s.env))
 | .goto l,s=>some (.goto l,s)
 | .jumps l a b,s=>cq l (ua call b) (ua call a s)
def Zr:Nat->List AV->Tr
 |_,[]=> .lf
 |i,v::r=>(Zr (i+1) r).set i v
def Ir(s:St):Bq->Option AV
 | .tmp t=>some (s.env.get t)
 | .cell t ag n=>wa s.H ag n (s.env.get t)
def Ft:List AV->AV
 | [v]=>v
 |vs=>xt vs
def iC(f:Xa)(s:St):Option AV:=(Ha (Ir s) f.results).map Ft
def UB(f:Xa):Option (Ex×St)->Option (AV×List fa)
 |some (.exit _,_)=>none
 |some (.goto _,_)=>none
 |some (_,s)=>(iC f s).map fun v=>(v,s.H)
 |none=>none
def Gc(call:Ab)(f:Xa)(args:List AV)(H:List fa):Option (AV×List fa):=
 if args.length=f.np then UB f (ua call f.body ⟨Zr 0 args,H⟩) else none
def La(L:Nat->Option Xa):Nat->Ab
 |0=>fun _ _ _=>none
 |d+1=>fun ix args H=>(L ix).bind fun f=>Gc (La L d) f args H
def oc(L:Nat->Option Xa)(f:Xa)(args:List PV):Option PV:=
 (Gc (La L 8) f (args.map .pv) []).bind fun r=>qb r.2 deep r.1
open Go.RowKit
abbrev Rd:=Nat->Nat->Option Value
structure qd where
 n:Nat
 R:Rd
 S:Nat->Prop:=fun _=>False
instance:Coe qd Nat:=⟨qd.n⟩
def spare:Obj->Bool
 | .cells .. =>false
 | .map .. =>false
 |_=>true
structure Od(B0:qd)(w w':World):Prop extends RowKit.Below B0.n w w' where
 qc:∀ (k:Nat)(o:Obj),w.heap[k]? =some o->spare o=true->w'.heap[k]? =some o
 held:∀ (k:Nat),B0.S k->w'.heap[k]? =w.heap[k]?
theorem Od.refl(B0:qd)(w:World):Od B0 w w:=⟨.refl _ _,fun _ _ h _=>h,fun _ _=>rfl⟩
theorem Od.trans{B0:qd}{a b c:World}(h:Od B0 a b)(k:Od B0 b c):Od B0 a c:=⟨h.toBelow.trans k.toBelow,fun i o h1 h2=>k.qc i o (h.qc i o h1 h2) h2,fun i hi=>(k.held i hi).trans (h.held i hi)⟩
theorem er{w:World}{k:Nat}{o:Obj}(h:w.heap[k]? =some o):k < w.heap.size:=(HF.1 h).1
theorem Od.Yy{B0:qd}{w w':World}(h:RowKit.Below w.heap.size w w')(hb:B0.n<=w.heap.size)(hs:∀ k,B0.S k->k < w.heap.size):Od B0 w w':=
 ⟨h.mono hb,fun k o h1 _=>by rw[h.block k (er h1)];exact h1,fun k hk=>h.block k (hs k hk)⟩
theorem Od.ON{B0:qd}{w w':World}{b:Nat}{ob:Obj}(h0:w.heap[b]? =some ob)(hob:spare ob=false)(h1:w'.os=w.os)(h2:w'.tape=w.tape)(h3:w'.output=w.output)(h4:w.heap.size<=w'.heap.size)(hb:B0.n<=b)(hs:∀ k,B0.S k->k < w.heap.size)(hf:¬B0.S b)
 (h:∀ k,k < w.heap.size->k≠b->w'.heap[k]? =w.heap[k]?):Od B0 w w':=
 ⟨⟨h1,h2,h3,h4,fun k hk=>h k (by have:=er h0;omega) (by omega)⟩,fun k o h5 h6=>by
  rw[h k (er h5) (fun e=>by subst e;rw[h0] at h5;cases h5;rw[hob] at h6;cases h6)];exact h5,
  fun k hk=>h k (hs k hk) (fun e=>hf (e ▸ hk))⟩
mutual
inductive Na(R:Rd):PV->Value->Prop
 |int (k:IntKind) (n:Int):Na R (.int k n) (.int k n)
 |bool (b:Bool):Na R (.bool b) (.bool b)
 |str (s:ByteArray):Na R (.str s) (.string s)
 |Ic:Na R .Ic (.pointer none)
 |oa:Na R .oa (.slice none 0 0)
 |Gk:Na R .Gk (.map none)
 |Fk:Na R .Fk .nilFunc
 |Eo:Na R .Eo .nilIface
 |rp (row:List PV) (off b o:Nat):Cd R row b o->Na R (.rp row off) (.pointer (some ⟨b,o+off,none⟩))
 |lit (sz:Nat) (es:List PV) (b o cap:Nat):es.length<=cap->(∀ e∈es,e.cells.length=sz)->Cd R (flat es) b o->Na R (.lit sz es) (.slice (some ⟨b,o,none⟩) es.length cap)
 |Br (sz:Nat) (a:Addr):Na R (.lit sz []) (.slice (some a) 0 0)
 |agg (cs:List PV) (vs:List Value):Cc R cs vs->Na R (.agg cs) (.agg ⟨vs⟩)
 |Ba (cs:List PV) (vs:List Value):Cc R cs vs->Na R (.Ba cs) (.tuple ⟨vs⟩)
 |iface (t:TypeId) (p:PV) (v:Value):Na R p v->Na R (.iface t p) (.iface t v)
inductive Cd(R:Rd):List PV->Nat->Nat->Prop
 |nil (b o:Nat):Cd R [] b o
 |cons (c:PV) (cs:List PV) (b o:Nat) (v:Value):R b o=some v->v.oneCell'=true->Na R c v->Cd R cs b (o+1)->Cd R (c::cs) b o
inductive Cc(R:Rd):List PV->List Value->Prop
 |nil:Cc R [] []
 |cons (c:PV) (cs:List PV) (v:Value) (vs:List Value):Na R c v->Cc R cs vs->Cc R (c::cs) (v::vs)
end
def Sub(R R':Rd):Prop:=∀ b o v,R b o=some v->R' b o=some v
theorem Sub.refl(R:Rd):Sub R R:=fun _ _ _ h=>h
theorem Sub.trans{R R' qv:Rd}(h:Sub R R')(h':Sub R' qv):Sub R qv:=fun b o v e=>h' b o v (h b o v e)
mutual
theorem Na.mono{R R':Rd}(hs:Sub R R'):∀ {p:PV}{v:Value},Na R p v->Na R' p v
 |_,_,.int _ _=> .int _ _
 |_,_,.bool _=> .bool _
 |_,_,.str _=> .str _
 |_,_,.Ic=> .Ic
 |_,_,.oa=> .oa
 |_,_,.Gk=> .Gk
 |_,_,.Fk=> .Fk
 |_,_,.Eo=> .Eo
 |_,_,.rp _ _ _ _ h=> .rp _ _ _ _ (Cd.mono hs h)
 |_,_,.lit _ _ _ _ _ h1 h2 h3=> .lit _ _ _ _ _ h1 h2 (Cd.mono hs h3)
 |_,_,.Br _ _=> .Br _ _
 |_,_,.agg _ _ h=> .agg _ _ (Cc.mono hs h)
 |_,_,.Ba _ _ h=> .Ba _ _ (Cc.mono hs h)
 |_,_,.iface _ _ _ h=> .iface _ _ _ (Na.mono hs h)
theorem Cd.mono{R R':Rd}(hs:Sub R R'):∀ {p:List PV}{b o:Nat},Cd R p b o->Cd R' p b o
 |_,_,_,.nil _ _=> .nil _ _
 |_,_,_,.cons _ _ _ _ _ h1 h0 h2 h3=> .cons _ _ _ _ _ (hs _ _ _ h1) h0 (Na.mono hs h2) (Cd.mono hs h3)
theorem Cc.mono{R R':Rd}(hs:Sub R R'):∀ {p:List PV}{v:List Value},Cc R p v->Cc R' p v
 |_,_,.nil=> .nil
 |_,_,.cons _ _ _ _ h1 h2=> .cons _ _ _ _ (Na.mono hs h1) (Cc.mono hs h2)
end
theorem Cc.length{R:Rd}{ps:List PV}{vs:List Value}(h:Cc R ps vs):vs.length=ps.length:=by
 induction ps generalizing vs with
 |nil=>cases h;rfl
 |cons p ps ih=>cases h with | cons _ _ _ _ _ h2=>simp[ih h2]
theorem Cc.get{R:Rd}{ps:List PV}{vs:List Value}(h:Cc R ps vs){i:Nat}{p:PV}(hp:ps[i]? =some p):∃ v,vs[i]? =some v/\Na R p v:=by
 induction ps generalizing vs i with
 |nil=>simp at hp
 |cons q ps ih=>
  cases h with
  |cons _ _ v vs h1 h2=>
   cases i with
   |zero=>simp at hp;subst hp;exact⟨v,rfl,h1⟩
   |succ i=>simpa using ih h2 (by simpa using hp)
theorem Cc.take{R:Rd}{ps:List PV}{vs:List Value}(h:Cc R ps vs)(n:Nat):Cc R (ps.take n) (vs.take n):=by
 induction ps generalizing vs n with
 |nil=>cases h;simpa using Cc.nil
 |cons q ps ih=>
  cases h with
  |cons _ _ v vs h1 h2=>
   cases n with
   |zero=>simpa using Cc.nil
   |succ n=>simpa using Cc.cons _ _ _ _ h1 (ih h2 n)
theorem Cc.drop{R:Rd}{ps:List PV}{vs:List Value}(h:Cc R ps vs)(n:Nat):Cc R (ps.drop n) (vs.drop n):=by
 induction ps generalizing vs n with
 |nil=>cases h;simpa using Cc.nil
 |cons q ps ih=>
  cases h with
  |cons _ _ v vs h1 h2=>
   cases n with
   |zero=>simpa using Cc.cons _ _ _ _ h1 h2
   |succ n=>simpa using ih h2 n
theorem Cd.get{R:Rd}{ps:List PV}{b o:Nat}(h:Cd R ps b o){i:Nat}{p:PV}(hp:ps[i]? =some p):∃ v,R b (o+i)=some v/\Na R p v:=by
 induction ps generalizing o i with
 |nil=>simp at hp
 |cons q ps ih=>
  cases h with
  |cons _ _ _ _ v h0 mf h1 h2=>
   cases i with
   |zero=>simp at hp;subst hp;exact⟨v,h0,h1⟩
   |succ i=>obtain⟨u,hu,hr⟩:=ih h2 (i:=i) (by simpa using hp);exact⟨u,by rw[<- hu];congr 1;omega,hr⟩
theorem Cd.drop{R:Rd}{ps:List PV}{b o:Nat}(h:Cd R ps b o)(n:Nat):Cd R (ps.drop n) b (o+n):=by
 induction ps generalizing o n with
 |nil=>simpa using Cd.nil _ _
 |cons q ps ih=>
  cases n with
  |zero=>simpa using h
  |succ n=>
   cases h with
   |cons _ _ _ _ v h0 mf h1 h2=>have:=ih h2 n;rw[show o+(n+1)=o+1+n from by omega];simpa using this
theorem Cd.take{R:Rd}{ps:List PV}{b o:Nat}(h:Cd R ps b o)(n:Nat):Cd R (ps.take n) b o:=by
 induction ps generalizing o n with
 |nil=>simpa using Cd.nil _ _
 |cons q ps ih=>
  cases n with
  |zero=>simpa using Cd.nil _ _
  |succ n=>
   cases h with
   |cons _ _ _ _ v h0 mf h1 h2=>simpa using Cd.cons _ _ _ _ _ h0 mf h1 (ih h2 n)
theorem Cd.append{R:Rd}{ps qs:List PV}{b o:Nat}(h:Cd R ps b o)(h':Cd R qs b (o+ps.length)):Cd R (ps++qs) b o:=by
 induction ps generalizing o with
 |nil=>simpa using h'
 |cons q ps ih=>
  cases h with
  |cons _ _ _ _ v h0 mf h1 h2=>exact Cd.cons _ _ _ _ _ h0 mf h1 (ih h2 (by rw[show o+1+ps.length=o+(q::ps).length from by simp;omega];exact h'))
theorem Cd.Ct{R:Rd}{ps:List PV}{vs:List Value}{b o:Nat}(h:Cc R ps vs)(h1s:∀ v∈vs,v.oneCell'=true)(hr:∀ i v,vs[i]? =some v->R b (o+i)=some v):Cd R ps b o:=by
 induction ps generalizing vs o with
 |nil=>exact .nil _ _
 |cons p ps ih=>
  cases h with
  |cons _ _ v vs h1 h2=>
   refine .cons _ _ _ _ v (by simpa using hr 0 v rfl) (h1s v (by simp)) h1 (ih h2 (fun u hu=>h1s u (by simp[hu])) fun i u hu=> ?_)
   have:=hr (i+1) u (by simpa using hu);rw[<- this];congr 1;omega
theorem Cd.list{R:Rd}{ps:List PV}{b o:Nat}(h:Cd R ps b o):∃ vs,Cc R ps vs/\(∀ v∈vs,v.oneCell'=true)/\∀ i v,vs[i]? =some v->R b (o+i)=some v:=by
 induction ps generalizing o with
 |nil=>exact⟨[],.nil,by simp,fun i v h=>by simp at h⟩
 |cons p ps ih=>
  cases h with
  |cons _ _ _ _ v h0 mf h1 h2=>
   obtain⟨vs,h3,h5,h4⟩:=ih h2;refine⟨v::vs,.cons _ _ _ _ h1 h3,(fun u hu=>by rcases Ae.1 hu with rfl | hu;exact mf;exact h5 u hu),fun i u hu=> ?_⟩;cases i with
   |zero=>simp at hu;subst hu;simpa using h0
   |succ i=>have:=h4 i u (by simpa using hu);rw[<- this];congr 1;omega
theorem nY(xs ys:List PV):flat (xs++ys)=flat xs++flat ys:=by
 induction xs with
 |nil=>rfl
 |cons x xs ih=>simp[flat,ih]
theorem IH{sz:Nat}{es:List PV}(h:∀ e∈es,e.cells.length=sz):(flat es).length=es.length * sz:=by
 induction es with
 |nil=>simp[flat]
 |cons e es ih=>have h1:=h e (by simp);have h2:=ih fun x hx=>h x (by simp[hx]);simp[flat,h1,h2,Nat.add_mul];omega
theorem wM{sz:Nat}{es:List PV}(h:∀ e∈es,e.cells.length=sz)(n:Nat):flat (es.drop n)=(flat es).drop (n * sz):=by
 induction es generalizing n with
 |nil=>simp[flat]
 |cons e es ih=>
  cases n with
  |zero=>simp
  |succ n=>
   have h1:=h e (by simp);have h2:=ih (fun x hx=>h x (by simp[hx])) n;simp only[Nz,h2,flat];rw[yK,h1];have:(n+1) * sz - sz=n * sz:=by rw[Nat.add_mul];omega
   rw[Vr (as:=e.cells) (by rw[h1,Nat.add_mul];omega),this,Kf]
theorem JH{sz:Nat}{es:List PV}(h:∀ e∈es,e.cells.length=sz)(n:Nat):flat (es.take n)=(flat es).take (n * sz):=by
 induction es generalizing n with
 |nil=>simp[flat]
 |cons e es ih=>
  cases n with
  |zero=>simp[flat]
  |succ n=>
   have h1:=h e (by simp);have h2:=ih (fun x hx=>h x (by simp[hx])) n;simp only[RC,h2,flat];rw[IK,h1];have:(n+1) * sz - sz=n * sz:=by rw[Nat.add_mul];omega
   rw[Ih (l:=e.cells) (by rw[h1,Nat.add_mul];omega),this]
theorem pY{sz:Nat}{es:List PV}(h:∀ e∈es,e.cells.length=sz){i:Nat}{e:PV}(he:es[i]? =some e):((flat es).drop (i * sz)).take sz=e.cells:=by
 rw[<- wM h i];have hl:i < es.length:=by
  rcases yd i es.length with h | h
  ·exact h
  ·rw[dh h] at he;cases he
 have:es.drop i=e::es.drop (i+1):=by
  rw[Rb hl] at he;injection he with he
  rw[<- he];exact Hh hl
 rw[this];simp only[flat];have h1:=h e (vj he);rw[IK,h1,Kq,List.take_zero,yi,Ih (by omega)]
abbrev Pl:=Nat->Nat×Nat
def K(R:Rd)(φ:Pl)(H:List fa):AV->Value->Prop
 | .pv p,v=>Na R p v
 | .ptr id off,v=>id < H.length/\v.oneCell'=true/\∀ c,H[id]? =some (.box c)->v= .pointer (some ⟨(φ id).1,off,none⟩)
 | .Sb id n off,v=>id < H.length/\v.oneCell'=true/\∀ sz ag c fl nl,H[id]? =some (.seq sz ag c fl nl)->n<=c.length/\(fl<=n->(c.length=n->v= .pointer (some ⟨(φ id).1,off,none⟩))/\
    ∀ ps,bd (c.take n)=some ps->0 < n->v= .pointer (some ⟨(φ id).1,off,none⟩)\/∃ b o,v= .pointer (some ⟨b,o+off,none⟩)/\Cd R ps b o)
 | .uq id nl sz es,v=>id < H.length/\(nl=true->v= .slice none 0 0/\es=[])/\(nl=false->Na R (.lit sz es) v)/\
    ∀ sj n nl',H[id]? =some (.tok sj n nl')->es.length<=n/\(n=es.length->nl'=nl/\sj=sz/\(nl=false->v= .slice (some ⟨(φ id).1,0,none⟩) n (φ id).2))
 | .own id len,v=>id < H.length/\v.oneCell'=true/\∀ sz ag c fl nl,H[id]? =some (.seq sz ag c fl nl)->len * sz<=c.length/\(fl<=len * sz->
    (nl=true->v= .slice none 0 0)/\
    (nl=false->(len=0/\c≠[]/\v= .slice none 0 0)\/∃ b o cap,v= .slice (some ⟨b,o,none⟩) len cap/\(len * sz=c.length->b=(φ id).1/\o=0/\cap=(φ id).2)/\
     (∀ ps,bd (c.take (len * sz))=some ps->(b=(φ id).1/\o=0)\/Cd R ps b o)))
 | .mp id,v=>id < H.length/\v.oneCell'=true/\∀ es,H[id]? =some (.map es)->v= .map (some (φ id).1)
 |_,_=>False
mutual
inductive Yb(fo:Nat->FuncId)(K:AV->Value->Prop):AV->Value->Prop
 |atom (a:AV) (v:Value):K a v->Yb fo K a v
 |Ec (ix:Nat) (cs:List AV) (vs:List Value):Qb fo K cs vs->Yb fo K (.Ec ix cs) (.func (.func (fo ix)) #[] ⟨vs⟩)
 |agg (cs:List AV) (vs:List Value):Qb fo K cs vs->Yb fo K (.agg cs) (.agg ⟨vs⟩)
 |Ba (cs:List AV) (vs:List Value):Qb fo K cs vs->Yb fo K (.Ba cs) (.tuple ⟨vs⟩)
 |undef (v:Value):Yb fo K .undef v
inductive Qb(fo:Nat->FuncId)(K:AV->Value->Prop):List AV->List Value->Prop
 |nil:Qb fo K [] []
 |cons (a:AV) (as:List AV) (v:Value) (vs:List Value):Yb fo K a v->Qb fo K as vs->Qb fo K (a::as) (v::vs)
end
mutual
theorem Yb.mono{fo:Nat->FuncId}{K K':AV->Value->Prop}(hk:∀ a v,K a v->K' a v):∀ {a:AV}{v:Value},Yb fo K a v->Yb fo K' a v
 |_,_,.atom _ _ h=> .atom _ _ (hk _ _ h)
 |_,_,.Ec _ _ _ h=> .Ec _ _ _ (Qb.mono hk h)
 |_,_,.agg _ _ h=> .agg _ _ (Qb.mono hk h)
 |_,_,.Ba _ _ h=> .Ba _ _ (Qb.mono hk h)
 |_,_,.undef _=> .undef _
theorem Qb.mono{fo:Nat->FuncId}{K K':AV->Value->Prop}(hk:∀ a v,K a v->K' a v):∀ {a:List AV}{v:List Value},Qb fo K a v->Qb fo K' a v
 |_,_,.nil=> .nil
 |_,_,.cons _ _ _ _ h1 h2=> .cons _ _ _ _ (Yb.mono hk h1) (Qb.mono hk h2)
end
section lists
variable {fo:Nat->FuncId}{K:AV->Value->Prop}
theorem Qb.length{as:List AV}{vs:List Value}(h:Qb fo K as vs):vs.length=as.length:=by
 induction as generalizing vs with
 |nil=>cases h;rfl
 |cons p ps ih=>cases h with | cons _ _ _ _ _ h2=>simp[ih h2]
theorem Qb.get{as:List AV}{vs:List Value}(h:Qb fo K as vs){i:Nat}{a:AV}(hp:as[i]? =some a):∃ v,vs[i]? =some v/\Yb fo K a v:=by
 induction as generalizing vs i with
 |nil=>simp at hp
 |cons q ps ih=>
  cases h with
  |cons _ _ v vs h1 h2=>
   cases i with
   |zero=>simp at hp;subst hp;exact⟨v,rfl,h1⟩
   |succ i=>simpa using ih h2 (by simpa using hp)
theorem Qb.take{as:List AV}{vs:List Value}(h:Qb fo K as vs)(n:Nat):Qb fo K (as.take n) (vs.take n):=by
 induction as generalizing vs n with
 |nil=>cases h;simpa using Qb.nil
 |cons q ps ih=>
  cases h with
  |cons _ _ v vs h1 h2=>
   cases n with
   |zero=>simpa using Qb.nil
   |succ n=>simpa using Qb.cons _ _ _ _ h1 (ih h2 n)
theorem Qb.drop{as:List AV}{vs:List Value}(h:Qb fo K as vs)(n:Nat):Qb fo K (as.drop n) (vs.drop n):=by
 induction as generalizing vs n with
 |nil=>cases h;simpa using Qb.nil
 |cons q ps ih=>
  cases h with
  |cons _ _ v vs h1 h2=>
   cases n with
   |zero=>simpa using Qb.cons _ _ _ _ h1 h2
   |succ n=>simpa using ih h2 n
theorem Qb.append{as bs:List AV}{vs us:List Value}(h:Qb fo K as vs)(h':Qb fo K bs us):Qb fo K (as++bs) (vs++us):=by
 induction as generalizing vs with
 |nil=>cases h;simpa using h'
 |cons q ps ih=>
  cases h with
  |cons _ _ v vs h1 h2=>exact .cons _ _ _ _ h1 (ih h2)
theorem Qb.set{as:List AV}{vs:List Value}(h:Qb fo K as vs)(i:Nat){a:AV}{v:Value}(hv:Yb fo K a v):Qb fo K (as.set i a) (vs.set i v):=by
 induction as generalizing vs i with
 |nil=>cases h;simpa using Qb.nil
 |cons q ps ih=>
  cases h with
  |cons _ _ u us h1 h2=>
   cases i with
   |zero=>exact .cons _ _ _ _ hv h2
   |succ i=>exact .cons _ _ _ _ h1 (ih h2 i)
theorem Qb.RB{R:Rd}{φ:Pl}{H:List fa}{ps:List PV}{vs:List Value}(h:Cc R ps vs):Qb fo (AM.K R φ H) (ps.map .pv) vs:=by
 induction ps generalizing vs with
 |nil=>cases h;exact .nil
 |cons p ps ih=>cases h with | cons _ _ v vs h1 h2=>exact .cons _ _ _ _ (.atom _ _ h1) (ih h2)
theorem Qb.Jal{α:Type}{f:α->AV}{g:α->Value}(l:List α)(h:∀ x∈l,Yb fo K (f x) (g x)):Qb fo K (l.map f) (l.map g):=by
 induction l with
 |nil=>exact .nil
 |cons x l ih=>exact .cons _ _ _ _ (h x (by simp)) (ih fun y hy=>h y (by simp[hy]))
end lists
theorem Yb.xd{fo:Nat->FuncId}{R:Rd}{φ:Pl}{H:List fa}{p:PV}{v:Value}(h:Yb fo (K R φ H) (.pv p) v):Na R p v:=by
 cases h with | atom _ _ h=>exact h
theorem Tt{fo:Nat->FuncId}{R:Rd}{φ:Pl}{H:List fa}{as:List AV}{ps:List PV}{vs:List Value}(hp:bd as=some ps)(h:Qb fo (K R φ H) as vs):Cc R ps vs:=by
 induction as generalizing ps vs with
 |nil=>simp[bd] at hp;subst hp;cases h;exact .nil
 |cons a as ih=>
  cases a with
  |pv p=>simp only[bd,dc] at hp;obtain⟨qs,hq,rfl⟩:=hp;cases h with | cons _ _ v vs h1 h2=>exact .cons _ _ _ _ h1.xd (ih hq h2)
  |_=>simp[bd] at hp
theorem Sk{as:List AV}{ps:List PV}(hp:bd as=some ps):as=ps.map .pv:=by
 induction as generalizing ps with
 |nil=>simp[bd] at hp;subst hp;rfl
 |cons a as ih=>
  cases a with
  |pv p=>simp only[bd,dc] at hp;obtain⟨qs,hq,rfl⟩:=hp;simp[ih hq]
  |_=>simp[bd] at hp
theorem naa(ps:List PV):bd (ps.map .pv)=some ps:=by
 induction ps with
 |nil=>rfl
 |cons p ps ih=>simp[bd,ih]
theorem IN{fo:Nat->FuncId}{R:Rd}{φ:Pl}{H:List fa}{as:List AV}{vs:List Value}(h:Qb fo (K R φ H) as vs):Yb fo (K R φ H) (mq as) (.agg ⟨vs⟩):=by
 unfold mq;cases e:bd as with
 |some ps=>exact .atom _ _ (show Na R _ _ from .agg _ _ (Tt e h))
 |none=>exact .agg _ _ h
theorem X3{fo:Nat->FuncId}{R:Rd}{φ:Pl}{H:List fa}{as:List AV}{vs:List Value}(h:Qb fo (K R φ H) as vs):Yb fo (K R φ H) (xt as) (.tuple ⟨vs⟩):=by
 unfold xt;cases e:bd as with
 |some ps=>exact .atom _ _ (show Na R _ _ from .Ba _ _ (Tt e h))
 |none=>exact .Ba _ _ h
def im:fa->Prop
 | .box _=>True
 | .seq _ _ _ _ nl=>nl=false
 | .tok _ _ nl=>nl=false
 | .map _=>True
 | .dead=>False
def live(H:List fa)(i:Nat):Prop:=∃ o,H[i]? =some o/\im o
def xg(w:World)(b:Nat)(arr:Array Value):Prop:=∃ ty fz,w.heap[b]? =some (.cells arr ty fz)/\∀ o,o < arr.size->¬(fz.1<=o/\o < fz.2)
def Ol(R:Rd):List (PV×PV)->List MapEntry->Prop
 | [],[]=>True
 |e::es,x::xs=>Na R e.1 x.key/\Na R e.2 x.val/\Ol R es xs
 |_,_=>False
theorem Ol.mono{R R':Rd}(hk:∀ p v,Na R p v->Na R' p v):∀ {es:List (PV×PV)}{xs:List MapEntry},Ol R es xs->Ol R' es xs
 | [],[],_=>trivial
 |_::_,_::_,h=>⟨hk _ _ h.1,hk _ _ h.2.1,Ol.mono hk h.2.2⟩
 | [],_::_,h=>h.elim
 |_::_,[],h=>h.elim
def Uo(fo:Nat->FuncId)(B0:qd)(w:World)(R:Rd)(φ:Pl)(H:List fa)(id:Nat):fa->Prop
 | .box cells=>B0<=(φ id).1/\(∀ o,R (φ id).1 o=none)/\cells.all AV.one=true/\∃ arr,xg w (φ id).1 arr/\Qb fo (K R φ H) cells arr.toList
 | .seq sz _ cells fl nl=>0 < sz/\fl<=cells.length/\(nl=true->cells=[])/\cells.all AV.one=true/\
    (nl=false->B0<=(φ id).1/\(∀ o,R (φ id).1 o=none)/\∃ arr,xg w (φ id).1 arr/\arr.size=(φ id).2 * sz/\cells.length<=arr.size/\Qb fo (K R φ H) cells (arr.toList.take cells.length))
 | .tok sz n nl=>0 < sz/\(nl=true->n=0)/\
    (nl=false->B0<=(φ id).1/\(∀ o,n * sz<=o->R (φ id).1 o=none)/\∃ arr,xg w (φ id).1 arr/\arr.size=(φ id).2 * sz/\n * sz<=arr.size)
 | .map es=>B0<=(φ id).1/\(∀ o,R (φ id).1 o=none)/\∃ te clk,w.heap[(φ id).1]? =some (.map te clk)/\Ol R es te.toList
 | .dead=>True
structure Lb(fo:Nat->FuncId)(B0:qd)(w:World)(R:Rd)(φ:Pl)(H:List fa):Prop where
 low:B0<=w.heap.size
 sub:∀ b o v,R b o=some v->w.cell? ⟨b,o,none⟩=some v
 obj:∀ id o,H[id]? =some o->Uo fo B0 w R φ H id o
 inj:∀ i j,live H i->live H j->(φ i).1=(φ j).1->i=j
 Wd:∀ b o,b < B0.n->R b o=B0.R b o
 slt:∀ k,B0.S k->k < w.heap.size
 free:∀ i,live H i->¬B0.S (φ i).1
def ye(fo:Nat->FuncId)(K:AV->Value->Prop)(e:Tr)(a:Act):Prop:=∀ t,Yb fo K (e.get t) (a.tmps.getD t undef)
theorem ye.mono{fo:Nat->FuncId}{K K':AV->Value->Prop}{e:Tr}{a:Act}(h:ye fo K e a)(hk:∀ a v,K a v->K' a v):ye fo K' e a:=fun t=>(h t).mono hk
theorem xg.lt{w:World}{b:Nat}{arr:Array Value}(h:xg w b arr):b < w.heap.size:=by
 obtain⟨ty,fz,h,_⟩:=h;rcases yd b w.heap.size with hlt | hge
 ·exact hlt
 ·rw[NJ hge] at h;cases h
theorem xg.cell{w:World}{b:Nat}{arr:Array Value}(h:xg w b arr)(o:Nat):w.cell? ⟨b,o,none⟩=arr[o]? :=by
 obtain⟨ty,fz,h,_⟩:=h;simp[World.cell?,h]
theorem xg.frozen{w:World}{b:Nat}{arr:Array Value}(h:xg w b arr){o:Nat}(ho:o < arr.size):w.frozen? ⟨b,o,none⟩=false:=by
 obtain⟨ty,fz,h,hf⟩:=h;have:=hf o ho;simp only[World.frozen?,h];rw[<- Bool.not_eq_true];simpa using this
theorem xg.qc{w w':World}{b:Nat}{arr:Array Value}(h:xg w b arr)(hk:w'.heap[b]? =w.heap[b]?):xg w' b arr:=by
 obtain⟨ty,fz,h,hf⟩:=h;exact⟨ty,fz,hk.trans h,hf⟩
theorem dp{w:World}{b o:Nat}{v:Value}(h:w.cell? ⟨b,o,none⟩=some v):b < w.heap.size:=by
 rcases yd b w.heap.size with hlt | hge
 ·exact hlt
 ·simp[World.cell?,NJ hge] at h
end Go.AM
namespace Go.AM
open Go.RowKit
theorem wv(b o j:Nat):(⟨b,o,none⟩:Addr).add j=⟨b,o+j,none⟩:=by
 unfold Addr.add
 by_cases h:j=0
 ·subst h;simp
 ·simp[h]
theorem Qm{α:Type}(cs:List α)(o:Nat)(vs:List α):(za cs o vs).length=cs.length:=by
 induction vs generalizing cs o with
 |nil=>rfl
 |cons v vs ih=>simp[za,ih]
theorem aaq{α:Type}(vs:List α):∀ (cs:List α)(o n:Nat),o+vs.length<=n->(za cs o vs).take n=za (cs.take n) o vs:=by
 induction vs with
 |nil=>intro cs o n _;rfl
 |cons v vs ih=>intro cs o n h;simp only[Td] at h;simp only[za];rw[ih _ _ _ (by omega),List.take_set]
section rel
variable {fo:Nat->FuncId}{K:AV->Value->Prop}
theorem Qb.za{as bs:List AV}{vs us:List Value}(h:Qb fo K as vs)(o:Nat)(h':Qb fo K bs us):Qb fo K (AM.za as o bs) (AM.za vs o us):=by
 induction bs generalizing as vs us o with
 |nil=>cases h';exact h
 |cons b bs ih=>cases h' with | cons _ _ u us h1 h2=>exact ih (h.set o h1) (o+1) h2
end rel
def zg(P:Program)(t:TypeId):Option Bool:=
 match P.underlying t with
 |some (.struct _)=>some true
 |some (.array _ _)=>some true
 |some _=>some false
 |none=>none
def Sd(P:Program)(t:TypeId):Option Nat:=(P.info? t).map (·.size)
def Qq(P:Program)(t:TypeId):Option Nat:=(P.info? t).map (·.bytes)
section runs
variable {P:Program}
theorem vO{t:TypeId}{b:Bool}(h:zg P t=some b)(w:World):(isAgg t).run P w= .ok b w:=by
 unfold zg at h;cases hu:P.underlying t with
 |none=>simp[hu] at h
 |some d=>simp only[hu] at h;simp only[isAgg,Sem.run_bind,run_underlying hu,Result.andThen_ok];cases d <;> simp_all
theorem qj{t:TypeId}{n:Nat}(h:Sd P t=some n)(w:World):(sizeOf t).run P w= .ok n w:=by
 unfold Sd at h;cases hi:P.info? t with
 |none=>simp[hi] at h
 |some i=>simp only[hi,Vc,xb] at h;simp[sizeOf,run_typeInfo w hi,h]
theorem O7{t:TypeId}{b o n:Nat}{vs:List Value}(w:World)(ha:zg P t=some true)(hn:Sd P t=some n)(hl:vs.length=n)
 (hc:∀ j v,vs[j]? =some v->w.cell? ⟨b,o+j,none⟩=some v):(loadVar t ⟨b,o,none⟩).run P w= .ok (.agg ⟨vs⟩) w:=by
 have:=run_loadCells_list (P:=P) w ⟨b,o,none⟩ vs (fun j v hv=>by rw[wv];exact hc j v hv);rw[hl] at this;simp[loadVar,vO ha,qj hn,this]
theorem P7{t:TypeId}{b o:Nat}{v:Value}(w:World)(ha:zg P t=some false)(hc:w.cell? ⟨b,o,none⟩=some v):(loadVar t ⟨b,o,none⟩).run P w= .ok v w:=by
 simp[loadVar,vO ha,hc]
def Zi(w:World)(b:Nat)(arr:List Value)(ty:TypeId)(fz:Nat×Nat):World:={w with heap:=w.heap.setIfInBounds b (.cells ⟨arr⟩ ty fz)}
theorem VU{b:Nat}{ty:TypeId}{fz:Nat×Nat}(o:Nat):∀ (vs:List Value)(i:Nat)(arr:List Value)(w:World),w.heap[b]? =some (.cells ⟨arr⟩ ty fz)->
 (∀ j,j < arr.length->¬(fz.1<=j/\j < fz.2))->o+i+vs.length<=arr.length->(∀ v∈vs,v.oneCell'=true)->
 (storeCells ⟨b,o,none⟩ vs i).run P w= .ok () (Zi w b (za arr (o+i) vs) ty fz)
 | [],i,arr,w,hb,hf,hl,h1=>by
   obtain⟨hlt,uS⟩:=HF.1 hb
   have:w.heap.setIfInBounds b (.cells ⟨arr⟩ ty fz)=w.heap:=by
    apply Array.ext_getElem?
    intro j;rw[Array.getElem?_setIfInBounds]
    by_cases e:b=j
    ·subst e;simp[hlt,uS]
    ·simp[e]
   simp[storeCells,Zi,za,this]
 |v::vs,i,arr,w,hb,hf,hl,h1=>by
  obtain⟨hlt,uS⟩:=HF.1 hb
  simp only[Td] at hl;have hcell:w.cell? ⟨b,o+i,none⟩=some (arr[o+i]'(by omega)):=by simp only[World.cell?,hb];simp
  have hfr:w.frozen? ⟨b,o+i,none⟩=false:=by have:=hf (o+i) (by omega);simp only[World.frozen?,hb];rw[<- Bool.not_eq_true];simpa using this
  have Cj:(w.setCell ⟨b,o+i,none⟩ v)=Zi w b (arr.set (o+i) v) ty fz:=by
   unfold World.setCell Zi
   congr 1
   apply Array.ext_getElem?
   intro j;rw[vC,Array.getElem?_setIfInBounds]
   by_cases e:b=j
   ·subst e;simp[hlt,uS]
   ·simp[e]
  have ih:=VU (b:=b) (ty:=ty) (fz:=fz) o vs (i+1) (arr.set (o+i) v) (Zi w b (arr.set (o+i) v) ty fz)
   (by simp[Zi,hlt]) (by simpa using hf) (by simp;omega) (fun u hu=>h1 u (by simp[hu]))
  simp only[storeCells,Sem.run_bind,wv];rw[run_store P w _ _ _ (h1 v (by simp))];simp only[hcell,hfr,Sc,if_false,Result.andThen_ok,Cj,ih];simp[Zi,za,Nat.add_assoc]
theorem Q7{t:TypeId}{b o n:Nat}{ty:TypeId}{fz:Nat×Nat}{arr:List Value}{v:Value}(w:World)(hn:Sd P t=some n)(hv:v.cells.toList.length=n)
 (hb:w.heap[b]? =some (.cells ⟨arr⟩ ty fz)) (hf:∀ j,j < arr.length->¬(fz.1<=j/\j < fz.2)) (hl:o+n<=arr.length) (h1:∀ u∈v.cells.toList,u.oneCell'=true):
 (storeVar t ⟨b,o,none⟩ v).run P w= .ok () (Zi w b (za arr o v.cells.toList) ty fz):=by
 have:=VU (P:=P) (b:=b) o v.cells.toList 0 arr w hb hf (by omega) h1
 have ib:v.cells.size=n:=by simpa using hv
 simp only[Vz] at this;simp[storeVar,qj hn,ib,this]
end runs
theorem Jam{v:Value}(h:v.oneCell'=true):v.cells.toList=[v]:=by
 cases v <;> simp_all [Value.cells,Value.oneCell']
theorem Na.one{R:Rd}{p:PV}{v:Value}(h:Na R p v)(hp:(AV.pv p).one=true):v.oneCell'=true:=by
 cases h <;> simp_all [AV.one,Value.oneCell']
theorem Yb.one{fo:Nat->FuncId}{R:Rd}{φ:Pl}{H:List fa}{a:AV}{v:Value}(h:Yb fo (K R φ H) a v)(ha:a.one=true):v.oneCell'=true:=by
 cases h with
 |atom a v h=>
  cases a with
  |pv p=>exact Na.one h ha
  |ptr id off=>exact h.2.1
  |Sb id n off=>exact h.2.1
  |own id len=>exact h.2.1
  |mp id=>exact h.2.1
  |uq id nl sz es=>
   obtain⟨_,h1,h2,_⟩:=h;cases nl with
   |true=>rw[(h1 rfl).1];rfl
   |false=>exact Na.one (h2 rfl) rfl
  |Ec ix cs=>exact h.elim
  |agg cs=>exact h.elim
  |Ba cs=>exact h.elim
  |undef=>exact h.elim
 |Ec ix cs vs h=>rfl
 |agg cs vs h=>simp[AV.one] at ha
 |Ba cs vs h=>simp[AV.one] at ha
 |undef v=>simp[AV.one] at ha
theorem DL{fo:Nat->FuncId}{R:Rd}{φ:Pl}{H:List fa}{a:AV}{v:Value}(h:Yb fo (K R φ H) a v)(hu:a.cells.all AV.one=true):
 Qb fo (K R φ H) a.cells v.cells.toList:=by
 have key:∀ {a:AV}{v:Value},Yb fo (K R φ H) a v->a.cells=[a]->a.cells.all AV.one=true->Qb fo (K R φ H) a.cells v.cells.toList:=by
  intro a v h e hu;rw[e] at hu ⊢;have h1:a.one=true:=by simpa using hu
  rw[Jam (h.one h1)];exact .cons _ _ _ _ h .nil
 cases h with
 |atom a v h=>
  cases a with
  |pv p=>
   cases p with
   |agg cs=>have h2:Na R (.agg cs) v:=h;cases h2 with | agg _ vs hh=>simpa[AV.cells,PV.cells,Value.cells] using Qb.RB hh
   |_=>exact key (.atom _ _ h) rfl hu
  |agg cs=>exact h.elim
  |_=>exact key (.atom _ _ h) rfl hu
 |Ec ix cs vs h=>exact key (.Ec _ _ _ h) rfl hu
 |agg cs vs h=>simpa[AV.cells,Value.cells] using h
 |Ba cs vs h=>exact key (.Ba _ _ h) rfl hu
 |undef v=>exact key (.undef _) rfl hu
theorem Pu{fo:Nat->FuncId}{R:Rd}{φ:Pl}{H:List fa}{as:List AV}{vs:List Value}(h:Qb fo (K R φ H) as vs)(ha:as.all AV.one=true):∀ v∈vs,v.oneCell'=true:=by
 induction as generalizing vs with
 |nil=>cases h;simp
 |cons a as ih=>
  cases h with
  |cons _ _ v vs h1 h2=>
   simp only[tm,fb] at ha;intro u hu;rcases Ae.1 hu with rfl | hu
   ·exact h1.one ha.1
   ·exact ih h2 ha.2 u hu
end Go.AM
namespace Go.AM
open Go.RowKit
def Zc(φ:Pl)(id:Nat)(p:Nat×Nat):Pl:=fun i=>if i=id then p else φ i
theorem Ye(φ:Pl)(id:Nat)(p:Nat×Nat):Zc φ id p id=p:=by simp[Zc]
theorem Nf(φ:Pl){id j:Nat}(p:Nat×Nat)(h:j≠id):Zc φ id p j=φ j:=by simp[Zc,h]
theorem K.sub{R R':Rd}{φ:Pl}{H:List fa}(hs:Sub R R')(a:AV)(v:Value)(h:K R φ H a v):K R' φ H a v:=by
 cases a with
 |pv p=>exact Na.mono hs h
 |ptr id off=>exact h
 |Sb id n off=>
  refine⟨h.1,h.2.1,fun sz ag c fl nl e=> ?_⟩;obtain⟨k0,k⟩:=h.2.2 sz ag c fl nl e
  refine⟨k0,fun hf=> ?_⟩;obtain⟨k1,k2⟩:=k hf;refine⟨k1,fun ps hp h0=> ?_⟩;rcases k2 ps hp h0 with q | ⟨b,o,q1,q2⟩
  ·exact .inl q
  ·exact .inr ⟨b,o,q1,q2.mono hs⟩
 |uq id nl sz es=>exact⟨h.1,h.2.1,fun e=>(h.2.2.1 e).mono hs,h.2.2.2⟩
 |own id len=>
  refine⟨h.1,h.2.1,fun sz ag c fl nl e=> ?_⟩;obtain⟨k0,k⟩:=h.2.2 sz ag c fl nl e
  refine⟨k0,fun hf=> ?_⟩;obtain⟨k1,k2⟩:=k hf;refine⟨k1,fun hn=> ?_⟩;rcases k2 hn with hq | ⟨b,o,cap,q1,q2,q3⟩
  ·exact .inl hq
  ·exact .inr ⟨b,o,cap,q1,q2,fun ps hp=>(q3 ps hp).imp (fun x=>x) (Cd.mono hs)⟩
 |mp id=>exact h
 |Ec ix cs=>exact h.elim
 |agg cs=>exact h.elim
 |Ba cs=>exact h.elim
 |undef=>exact h.elim
theorem getElem?_push{H:List fa}{o:fa}{id:Nat}(h:id < H.length):(H++[o])[id]? =H[id]? :=by
 rw[Kc h]
theorem K.push{R:Rd}{φ:Pl}{H:List fa}(o:fa)(p:Nat×Nat)(a:AV)(v:Value)(h:K R φ H a v):K R (Zc φ H.length p) (H++[o]) a v:=by
 have key:∀ {id:Nat},id < H.length->id < (H++[o]).length/\(H++[o])[id]? =H[id]? /\Zc φ H.length p id=φ id:=by intro id h;exact⟨by simp;omega,getElem?_push h,Nf _ _ (by omega)⟩
 cases a with
 |pv p=>exact h
 |ptr id off=>
  obtain⟨k1,k2,k3⟩:=key h.1
  exact⟨k1,h.2.1,by rw[k2,k3];exact h.2.2⟩
 |Sb id n off=>
  obtain⟨k1,k2,k3⟩:=key h.1
  exact⟨k1,h.2.1,by rw[k2,k3];exact h.2.2⟩
 |uq id nl sz es=>
  obtain⟨k1,k2,k3⟩:=key h.1
  exact⟨k1,h.2.1,h.2.2.1,by rw[k2,k3];exact h.2.2.2⟩
 |own id len=>
  obtain⟨k1,k2,k3⟩:=key h.1
  exact⟨k1,h.2.1,by rw[k2,k3];exact h.2.2⟩
 |mp id=>
  obtain⟨k1,k2,k3⟩:=key h.1
  exact⟨k1,h.2.1,by rw[k2,k3];exact h.2.2⟩
 |Ec ix cs=>exact h.elim
 |agg cs=>exact h.elim
 |Ba cs=>exact h.elim
 |undef=>exact h.elim
theorem Uo.qc{fo:Nat->FuncId}{B0:qd}{w w':World}{R R':Rd}{φ φ':Pl}{H H':List fa}{id:Nat}{o:fa}(h:Uo fo B0 w R φ H id o)
 (hl:im o->w'.heap[(φ id).1]? =w.heap[(φ id).1]? /\∀ j,R (φ id).1 j=none->R' (φ id).1 j=none) (hφ:φ' id=φ id) (hk:∀ a v,K R φ H a v->K R' φ' H' a v):
 Uo fo B0 w' R' φ' H' id o:=by
 cases o with
 |box cells=>obtain⟨h1,h2,ha,arr,h3,h4⟩:=h;obtain⟨l1,l2⟩:=hl trivial;exact⟨by rw[hφ];exact h1,by rw[hφ];exact fun j=>l2 j (h2 j),ha,arr,by rw[hφ];exact h3.qc l1,h4.mono hk⟩
 |seq sz ag cells fl nl=>obtain⟨h0,h1,h2,h4,h3⟩:=h;refine⟨h0,h1,h2,h4,fun hn=> ?_⟩;obtain⟨k1,k2,arr,k3,k4,k5,k6⟩:=h3 hn;obtain⟨l1,l2⟩:=hl hn;exact⟨by rw[hφ];exact k1,by rw[hφ];exact fun j=>l2 j (k2 j),arr,by rw[hφ];exact k3.qc l1,by rw[hφ];exact k4,k5,k6.mono hk⟩
 |tok sz n nl=>obtain⟨h0,h2,h3⟩:=h;refine⟨h0,h2,fun hn=> ?_⟩;obtain⟨k1,k2,arr,k3,k4,k5⟩:=h3 hn;obtain⟨l1,l2⟩:=hl hn;exact⟨by rw[hφ];exact k1,by rw[hφ];exact fun j hj=>l2 j (k2 j hj),arr,by rw[hφ];exact k3.qc l1,by rw[hφ];exact k4,k5⟩
 |map es=>obtain⟨h1,h2,te,clk,h3,h4⟩:=h;obtain⟨l1,l2⟩:=hl trivial;exact⟨by rw[hφ];exact h1,by rw[hφ];exact fun j=>l2 j (h2 j),te,clk,by rw[hφ,l1];exact h3,h4.mono fun p v hp=>hk (.pv p) v hp⟩
 |dead=>trivial
theorem Uo.lt{fo:Nat->FuncId}{B0:qd}{w:World}{R:Rd}{φ:Pl}{H:List fa}{id:Nat}{o:fa}(h:Uo fo B0 w R φ H id o)(hl:im o):(φ id).1 < w.heap.size:=by
 cases o with
 |box cells=>obtain⟨_,_,_,arr,h3,_⟩:=h;exact h3.lt
 |seq sz ag cells fl nl=>obtain⟨_,_,arr,h3,_⟩:=h.2.2.2.2 hl;exact h3.lt
 |tok sz n nl=>obtain⟨_,_,arr,h3,_⟩:=h.2.2 hl;exact h3.lt
 |map es=>
  obtain⟨_,_,te,clk,h3,_⟩:=h;rcases yd (φ id).1 w.heap.size with hlt | hge
  ·exact hlt
  ·rw[NJ hge] at h3;cases h3
 |dead=>exact hl.elim
theorem Uo.base{fo:Nat->FuncId}{B0:qd}{w:World}{R:Rd}{φ:Pl}{H:List fa}{id:Nat}{o:fa}(h:Uo fo B0 w R φ H id o)(hl:im o):B0.n<=(φ id).1:=by
 cases o with
 |box cells=>exact h.1
 |seq sz ag cells fl nl=>exact (h.2.2.2.2 hl).1
 |tok sz n nl=>exact (h.2.2 hl).1
 |map es=>exact h.1
 |dead=>exact hl.elim
theorem getElem?_lt{α:Type}{l:List α}{i:Nat}{x:α}(h:l[i]? =some x):i < l.length:=by
 rcases yd i l.length with hl | hl
 ·exact hl
 ·rw[dh hl] at h;cases h
theorem Lb.push{fo:Nat->FuncId}{B0:qd}{w w':World}{R R':Rd}{φ:Pl}{H:List fa}{o:fa}{p:Nat×Nat}(hS:Lb fo B0 w R φ H)
 (ib:w.heap.size<=w'.heap.size) (hw:∀ b,b < w.heap.size->w'.heap[b]? =w.heap[b]?) (hR:∀ b o,b < w.heap.size->R' b o=R b o) (hsub:∀ b o v,R' b o=some v->w'.cell? ⟨b,o,none⟩=some v)
 (hk:∀ a v,K R φ H a v->K R' (Zc φ H.length p) (H++[o]) a v)
 (Up:im o->w.heap.size<=p.1) (hO:Uo fo B0 w' R' (Zc φ H.length p) (H++[o]) H.length o):Lb fo B0 w' R' (Zc φ H.length p) (H++[o]):=by
 have Wd:∀ {i:Nat}{x:fa},(H++[o])[i]? =some x->(i < H.length/\H[i]? =some x)\/(i=H.length/\x=o):=by
  intro i x hx;rcases Nat.lt_trichotomy i H.length with h | h | h
  ·exact .inl ⟨h,by rw[<- getElem?_push h (o:=o)];exact hx⟩
  ·subst h;simp at hx;exact .inr ⟨rfl,hx.symm⟩
  ·rw[dh (by simp;omega)] at hx;cases hx
 refine⟨Lj hS.low ib,hsub,fun i x hx=> ?_,fun i j hi hj e=> ?_,fun b o hb=>by rw[hR b o (Xn hb hS.low)];exact hS.Wd b o hb,fun k hk=>Xn (hS.slt k hk) ib,fun i hi hs=> ?_⟩
 ·rcases Wd hx with⟨h,hx⟩ | ⟨rfl,rfl⟩
  ·have WA:=hS.obj i x hx
   refine WA.qc (fun hl=>⟨hw _ (WA.lt hl),fun j hj=>by rw[hR _ _ (WA.lt hl)];exact hj⟩) (Nf _ _ (by omega)) hk
  ·exact hO
 ·obtain⟨x,hx,Bj⟩:=hi
  obtain⟨y,hy,Cy⟩:=hj;rcases Wd hx with⟨h1,Dk⟩ | ⟨e1,e2⟩ <;> rcases Wd hy with⟨h2,RE⟩ | ⟨e3,e4⟩
  ·rw[Nf _ _ (by omega),Nf _ _ (by omega)] at e
   exact hS.inj i j ⟨x,Dk,Bj⟩ ⟨y,RE,Cy⟩ e
  ·subst e3 e4
   rw[Nf _ _ (by omega),Ye] at e;have:=(hS.obj i x Dk).lt Bj
   have:=Up Cy;omega
  ·subst e1 e2
   rw[Ye,Nf _ _ (by omega)] at e;have:=(hS.obj j y RE).lt Cy
   have:=Up Bj;omega
  ·rw[e1,e3]
 ·obtain⟨x,hx,Bj⟩:=hi
  rcases Wd hx with⟨h1,Dk⟩ | ⟨e1,e2⟩
  ·rw[Nf _ _ (by omega)] at hs
   exact hS.free i ⟨x,Dk,Bj⟩ hs
  ·subst e1 e2
   rw[Ye] at hs;have:=hS.slt _ hs
   have:=Up Bj;omega
theorem Lb.Zc{fo:Nat->FuncId}{B0:qd}{w w':World}{R R':Rd}{φ:Pl}{H:List fa}{id:Nat}{o o':fa}{p:Nat×Nat}(hS:Lb fo B0 w R φ H)(ho:H[id]? =some o)
 (ib:w.heap.size<=w'.heap.size) (hw:∀ b,b < w.heap.size->(im o->b≠(φ id).1)->w'.heap[b]? =w.heap[b]?)
 (hR:∀ b j,b < w.heap.size->(im o->b≠(φ id).1)->R' b j=R b j) (hsub:∀ b o v,R' b o=some v->w'.cell? ⟨b,o,none⟩=some v)
 (hk:∀ a v,K R φ H a v->K R' (AM.Zc φ id p) (H.set id o') a v)
 (Up:im o'->(im o/\p.1=(φ id).1)\/w.heap.size<=p.1) (hO:Uo fo B0 w' R' (AM.Zc φ id p) (H.set id o') id o'):Lb fo B0 w' R' (AM.Zc φ id p) (H.set id o'):=by
 have Ma:=getElem?_lt ho;have Wd:∀ {i:Nat}{x:fa},(H.set id o')[i]? =some x->(i≠id/\H[i]? =some x)\/(i=id/\x=o'):=by
  intro i x hx
  by_cases h:i=id
  ·subst h;rw[Of Ma] at hx;injection hx with hx;exact .inr ⟨rfl,hx.symm⟩
  ·rw[ze (tf h)] at hx;exact .inl ⟨h,hx⟩
 have apart:∀ {i:Nat}{x:fa},i≠id->H[i]? =some x->im x->im o->(φ i).1≠(φ id).1:=by intro i x Va hx Bj sg e;exact Va (hS.inj i id ⟨x,hx,Bj⟩ ⟨o,ho,sg⟩ e)
 refine⟨Lj hS.low ib,hsub,fun i x hx=> ?_,fun i j hi hj e=> ?_,fun b j hb=>by rw[hR b j (Xn hb hS.low) (fun hl e=>by have:=(hS.obj id o ho).base hl;omega)];exact hS.Wd b j hb,fun k hk=>Xn (hS.slt k hk) ib,fun i hi hs=> ?_⟩
 ·rcases Wd hx with⟨h,hx⟩ | ⟨rfl,rfl⟩
  ·have WA:=hS.obj i x hx
   exact WA.qc (fun hl=>⟨hw _ (WA.lt hl) (apart h hx hl),fun j hj=>by rw[hR _ _ (WA.lt hl) (apart h hx hl)];exact hj⟩) (Nf _ _ h) hk
  ·exact hO
 ·obtain⟨x,hx,Bj⟩:=hi
  obtain⟨y,hy,Cy⟩:=hj;rcases Wd hx with⟨h1,Dk⟩ | ⟨e1,e2⟩ <;> rcases Wd hy with⟨h2,RE⟩ | ⟨e3,e4⟩
  ·rw[Nf _ _ h1,Nf _ _ h2] at e
   exact hS.inj i j ⟨x,Dk,Bj⟩ ⟨y,RE,Cy⟩ e
  ·subst e3 e4
   rw[Nf _ _ h1,Ye] at e;have hlt:=(hS.obj i x Dk).lt Bj
   rcases Up Cy with⟨sg,hp⟩ | hp
   ·exact absurd (e.trans hp) (apart h1 Dk Bj sg)
   ·omega
  ·subst e1 e2
   rw[Ye,Nf _ _ h2] at e;have hlt:=(hS.obj j y RE).lt Cy
   rcases Up Bj with⟨sg,hp⟩ | hp
   ·exact absurd (e.symm.trans hp) (apart h2 RE Cy sg)
   ·omega
  ·rw[e1,e3]
 ·obtain⟨x,hx,Bj⟩:=hi
  rcases Wd hx with⟨h1,Dk⟩ | ⟨e1,e2⟩
  ·rw[Nf _ _ h1] at hs
   exact hS.free i ⟨x,Dk,Bj⟩ hs
  ·subst e1 e2
   rw[Ye] at hs;rcases Up Bj with⟨sg,hp⟩ | hp
   ·rw[hp] at hs;exact hS.free i ⟨o,ho,sg⟩ hs
   ·have:=hS.slt _ hs
    omega
def Je(fo:Nat->FuncId)(B0:qd)(w:World)(R:Rd)(φ:Pl)(H:List fa)(r:Result Value)(v:AV)(H':List fa):Prop:=
 ∃ v' w' R' φ',r= .ok v' w'/\Lb fo B0 w' R' φ' H'/\Yb fo (K R' φ' H') v v'/\(∀ a u,K R φ H a u->K R' φ' H' a u)/\Od B0 w w'
theorem Je.same{fo:Nat->FuncId}{B0:qd}{w:World}{R:Rd}{φ:Pl}{H:List fa}{r:Result Value}{v:AV}(v':Value)(hS:Lb fo B0 w R φ H)(hr:r= .ok v' w)(hv:Yb fo (K R φ H) v v'):
 Je fo B0 w R φ H r v H:=⟨v',w,R,φ,hr,hS,hv,fun _ _ h=>h,Od.refl _ _⟩
section ops
variable {P:Program}{fo:Nat->FuncId}{B0:qd}{w:World}{R:Rd}{φ:Pl}{H:List fa}
theorem Pp{w:World}{o:Obj}{b:Nat}(h:b < w.heap.size):(w.heap.push o)[b]? =w.heap[b]? :=by
 rw[Array.getElem?_push,qa (by omega)]
theorem IQ(hB:B0<=w.heap.size)(hs:∀ k,B0.S k->k < w.heap.size)(o:Obj):Od B0 w {w with heap:=w.heap.push o}:=
 .Yy ⟨rfl,rfl,rfl,by simp,fun k hk=>Pp hk⟩ hB hs
theorem Lb.MN(hS:Lb fo B0 w R φ H){b:Nat}(hb:w.heap.size<=b)(o:Nat):R b o=none:=by
 cases h:R b o with
 |none=>rfl
 |some v=>have:=dp (hS.sub b o v h);omega
theorem FW{w:World}{ob:Obj}{b o:Nat}(h:b < w.heap.size):World.cell? {w with heap:=w.heap.push ob} ⟨b,o,none⟩=w.cell? ⟨b,o,none⟩:=by
 simp[World.cell?,Pp h]
theorem F4(hS:Lb fo B0 w R φ H){cells:List AV}{vs:List Value}(hc:Qb fo (K R φ H) cells vs)(h1:cells.all AV.one=true)(ty:TypeId):
 Je fo B0 w R φ H (.ok (.pointer (some ⟨w.heap.size,0,none⟩)) {w with heap:=w.heap.push (.cells ⟨vs⟩ ty)}) (.ptr H.length 0) (H++[.box cells]):=by
 have hk:=fun a v=>K.push (R:=R) (φ:=φ) (H:=H) (.box cells) (w.heap.size,0) a v
 refine⟨_,_,R,AM.Zc φ H.length (w.heap.size,0),rfl,?_,?_,hk,IQ hS.low hS.slt _⟩
 ·refine hS.push (by simp) (fun b hb=>Pp hb) (fun _ _ _=>rfl) (fun b o v h=> ?_) hk (fun _=>gb _) ?_
  ·have:=hS.sub b o v h
   rw[FW (dp this)];exact this
  ·refine⟨by rw[Ye];exact hS.low,by rw[Ye];exact hS.MN (gb _),h1,⟨vs⟩,?_,hc.mono hk⟩
   rw[Ye];exact⟨ty,(0,0),by simp,fun o _ h=>by omega⟩
 ·refine .atom _ _ ⟨by simp,rfl,fun c _=>by rw[Ye]⟩
end ops
end Go.AM
namespace Go.AM
open Go.RowKit
def Ru(p:PV):Bool:=(AV.pv p).one
theorem A6{p:PV}(h:Ru p=true):p.cells=[p]:=by
 cases p <;> simp_all [Ru,AV.one,PV.cells]
theorem GL(sz:Nat)(ag:Bool)(ib:ag=false->sz=1):∀ (n:Nat)(ps:List PV),ps.length=n * sz->(∀ p∈ps,Ru p=true)->
 flat (chunk sz ag n ps)=ps/\(∀ e∈chunk sz ag n ps,e.cells.length=sz)/\(chunk sz ag n ps).length=n:=by
 intro n
 induction n with
 |zero=>intro ps hl _;simp at hl;subst hl;simp[chunk,flat]
 |succ n ih=>
  intro ps hl hp;obtain⟨i1,i2,i3⟩:=ih (ps.drop sz) (by simp[hl,Nat.add_mul]) (fun p h=>hp p (No h));cases ag with
  |true=>
   have hc:(PV.agg (ps.take sz)).cells=ps.take sz:=rfl
   have hlen:(ps.take sz).length=sz:=by rw[ij,hl,Nat.add_mul];omega
   refine⟨?_,?_,?_⟩
   ·simp only[chunk,if_true,flat,hc,i1,Wr]
   ·intro e he
    simp only[chunk,if_true,Ae] at he;rcases he with rfl | he
    ·rw[hc];exact hlen
    ·exact i2 e he
   ·simp[chunk,i3]
  |false=>
   have h1:=ib rfl;subst h1;cases ps with
   |nil=>simp at hl
   |cons p ps=>
    have Ti:=A6 (hp p (by simp));refine⟨?_,?_,?_⟩
    ·simp only[Nz,Un] at i1
     simp[chunk,flat,Ti,i1]
    ·intro e he
     simp only[chunk,Sc,if_false,List.headD_cons,Ae] at he;rcases he with rfl | he
     ·rw[Ti];rfl
     ·exact i2 e he
    ·simp only[Nz,Un] at i3
     simp[chunk,i3]
theorem LV{as:List AV}{ps:List PV}(h:bd as=some ps)(ha:as.all AV.one=true):∀ p∈ps,Ru p=true:=by
 have:=Sk h;subst this;intro p hp;have:=Df.1 ha (.pv p) (Re.2 ⟨p,hp,rfl⟩)
 exact this
def qi(R:Rd)(nb:Nat)(f:Nat->Option Value):Rd:=fun b o=>if b=nb then f o else R b o
theorem pM{fo:Nat->FuncId}{B0:qd}{w:World}{R:Rd}{φ:Pl}{H:List fa}(hS:Lb fo B0 w R φ H)(f:Nat->Option Value):Sub R (qi R w.heap.size f):=by
 intro b o v h;have:=dp (hS.sub b o v h);unfold qi;rw[qa (by omega)];exact h
theorem Vk{w w':World}{b o:Nat}(h:w'.heap[b]? =w.heap[b]?):w'.cell? ⟨b,o,none⟩=w.cell? ⟨b,o,none⟩:=by
 simp[World.cell?,h]
section fresh
variable {fo:Nat->FuncId}{B0:qd}{w w':World}{R:Rd}{φ:Pl}{H:List fa}
theorem SR(hS:Lb fo B0 w R φ H){es:List PV}{vs rest:List Value}(hl:Cc R (flat es) vs)(h1:∀ v∈vs,v.oneCell'=true){sz cap:Nat}(h0:0 < sz)(c2:∀ e∈es,e.cells.length=sz)
 (Sj:(vs++rest).length=cap * sz) {ty:TypeId} {fz:Nat×Nat} (hf:∀ o,o < (vs++rest).length->¬(fz.1<=o/\o < fz.2))
 (hheap:w'.heap=w.heap.push (.cells ⟨vs++rest⟩ ty fz)) (hos:w'.os=w.os) (htape:w'.tape=w.tape) (Gi:w'.output=w.output):
 Je fo B0 w R φ H (.ok (.slice (some ⟨w.heap.size,0,none⟩) es.length cap) w') (.pv (.lit sz es)) H/\
 Je fo B0 w R φ H (.ok (.slice (some ⟨w.heap.size,0,none⟩) es.length cap) w') (.uq H.length false sz es) (H++[.tok sz es.length false]):=by
 have hn:vs.length=es.length * sz:=by rw[hl.length,IH c2]
 have Si:=hS.low
 have rE:Od B0 w w':= .Yy ⟨hos,htape,Gi,by simp[hheap],fun k hk=>by rw[hheap];exact Pp hk⟩ Si hS.slt
 have hold':∀ b,b < w.heap.size->w'.heap[b]? =w.heap[b]? :=fun b hb=>by rw[hheap];exact Pp hb
 have nT:w'.heap[w.heap.size]? =some (.cells ⟨vs++rest⟩ ty fz):=by rw[hheap];simp
 have mT:es.length<=cap:=by
  have:vs.length<=(vs++rest).length:=by simp
  rw[hn,Sj] at this;exact iG this h0
 have hblk:xg w' w.heap.size ⟨vs++rest⟩:=⟨ty,fz,nT,fun o ho=>hf o (by simpa using ho)⟩
 have hcell:∀ o,w'.cell? ⟨w.heap.size,o,none⟩=(vs++rest)[o]? :=fun o=>by rw[hblk.cell];simp
 have EI:w.heap.size<=w'.heap.size:=by simp[hheap]
 constructor
 ·have hsub:=pM hS (fun o=>(vs++rest)[o]?)
  have hk:=fun a v=>K.sub (φ:=φ) (H:=H) hsub a v
  refine⟨_,w',qi R w.heap.size (fun o=>(vs++rest)[o]?),φ,rfl,?_,.atom _ _ ?_,hk,rE⟩
  ·refine⟨Lj hS.low EI,fun b o v h=> ?_,fun id o ho=> ?_,hS.inj,fun b o hb=>by have:=hS.low;unfold qi;rw[qa (by omega)];exact hS.Wd b o hb,fun k hk=>Xn (hS.slt k hk) EI,hS.free⟩
   ·unfold qi at h
    split at h
    ·rename_i e;subst e;rw[hcell];exact h
    ·have:=hS.sub b o v h
     rw[Vk (hold' b (dp this))];exact this
   ·have hO:=hS.obj id o ho
    refine hO.qc (fun oI=>⟨hold' _ (hO.lt oI),fun j hj=> ?_⟩) rfl hk
    have:=hO.lt oI
    unfold qi;rw[qa (by omega)];exact hj
  ·show Na _ _ _
   refine Na.lit sz es w.heap.size 0 cap mT c2 (Cd.Ct (hl.mono hsub) h1 fun i v hi=> ?_)
   have hlt:=getElem?_lt hi;simp[qi,Kc hlt,hi]
 ·have hsub:=pM hS (fun o=>if o < es.length * sz then (vs++rest)[o]? else none)
  have hk:=fun a v h=>K.push (.tok sz es.length false) (w.heap.size,cap) a v (K.sub (φ:=φ) (H:=H) hsub a v h)
  have oS:Na (qi R w.heap.size (fun o=>if o < es.length * sz then (vs++rest)[o]? else none)) (.lit sz es) (.slice (some ⟨w.heap.size,0,none⟩) es.length cap):=by
   refine Na.lit sz es w.heap.size 0 cap mT c2 (Cd.Ct (hl.mono hsub) h1 fun i v hi=> ?_)
   have hlt:=getElem?_lt hi;simp[qi,Kc hlt,hi];omega
  refine⟨_,w',_,AM.Zc φ H.length (w.heap.size,cap),rfl,?_,.atom _ _ ?_,hk,rE⟩
  ·refine hS.push EI hold' (fun b o hb=>by unfold qi;rw[qa (by omega)]) (fun b o v h=> ?_) hk (fun _=>gb _) ?_
   ·unfold qi at h
    split at h
    ·rename_i e;subst e;rw[hcell]
     dsimp only at h
     split at h
     ·exact h
     ·cases h
    ·have:=hS.sub b o v h
     rw[Vk (hold' b (dp this))];exact this
   ·refine⟨h0,(fun h=>by cases h),fun _=> ?_⟩
    rw[Ye];refine⟨Si,fun o ho=>by simp[qi];omega,⟨vs++rest⟩,hblk,by simpa using Sj,?_⟩;simp;omega
  ·refine⟨by simp,(fun h=>by cases h),fun _=>oS,fun sj n' nl' h=> ?_⟩
   simp at h;obtain⟨rfl,rfl,rfl⟩:=h;refine⟨by omega,fun _=>⟨rfl,rfl,fun _=> ?_⟩⟩;rw[Ye]
theorem VR(hS:Lb fo B0 w R φ H){cells:List AV}{vs rest:List Value}(hc:Qb fo (K R φ H) cells vs)(h1:cells.all AV.one=true){sz n cap:Nat}(h0:0 < sz)(hn:vs.length=n * sz)
 (Sj:(vs++rest).length=cap * sz) {ag:Bool} (Ps:ag=false->sz=1) {ty:TypeId} {fz:Nat×Nat} (hf:∀ o,o < (vs++rest).length->¬(fz.1<=o/\o < fz.2))
 (hheap:w'.heap=w.heap.push (.cells ⟨vs++rest⟩ ty fz)) (hos:w'.os=w.os) (htape:w'.tape=w.tape) (Gi:w'.output=w.output)
 {hold:Qc} {v:AV} {H':List fa} (hfr:fresh H hold sz ag n cells=some (v,H')):
 Je fo B0 w R φ H (.ok (.slice (some ⟨w.heap.size,0,none⟩) n cap) w') v H':=by
 have Si:=hS.low
 have rE:Od B0 w w':= .Yy ⟨hos,htape,Gi,by simp[hheap],fun k hk=>by rw[hheap];exact Pp hk⟩ Si hS.slt
 have hold':∀ b,b < w.heap.size->w'.heap[b]? =w.heap[b]? :=fun b hb=>by rw[hheap];exact Pp hb
 have nT:w'.heap[w.heap.size]? =some (.cells ⟨vs++rest⟩ ty fz):=by rw[hheap];simp
 have mT:n<=cap:=by
  have:vs.length<=(vs++rest).length:=by simp
  rw[hn,Sj] at this;exact iG this h0
 have ZS:=hc.length
 have hblk:xg w' w.heap.size ⟨vs++rest⟩:=⟨ty,fz,nT,fun o ho=>hf o (by simpa using ho)⟩
 have hcell:∀ o,w'.cell? ⟨w.heap.size,o,none⟩=(vs++rest)[o]? :=fun o=>by rw[hblk.cell];simp
 have EI:w.heap.size<=w'.heap.size:=by simp[hheap]
 cases hold with
 |lit=>
  simp only[fresh,dc,Jb] at hfr;obtain⟨ps,hps,rfl,rfl⟩:=hfr;have hl:=Tt hps hc;have xc:=hl.length
  obtain⟨c1,c2,c3⟩:=GL sz ag Ps n ps (by omega) (LV hps h1);have:=(SR (fo:=fo) (B0:=B0) hS (es:=chunk sz ag n ps) (by rw[c1];exact hl) (Pu hc h1) h0 c2 Sj hf hheap hos htape Gi).1
  rwa [c3] at this
 |uq=>
  simp only[fresh,dc,Jb] at hfr;obtain⟨ps,hps,rfl,rfl⟩:=hfr;have hl:=Tt hps hc;have xc:=hl.length
  obtain⟨c1,c2,c3⟩:=GL sz ag Ps n ps (by omega) (LV hps h1);have:=(SR (fo:=fo) (B0:=B0) hS (es:=chunk sz ag n ps) (by rw[c1];exact hl) (Pu hc h1) h0 c2 Sj hf hheap hos htape Gi).2
  rwa [c3] at this
 |own=>
  simp only[fresh,xb,Jb] at hfr;obtain⟨rfl,rfl⟩:=hfr;have hk:=fun a v h=>K.push (R:=R) (φ:=φ) (H:=H) (.seq sz ag cells 0 false) (w.heap.size,cap) a v h
  refine⟨_,w',R,AM.Zc φ H.length (w.heap.size,cap),rfl,?_,.atom _ _ ?_,hk,rE⟩
  ·refine hS.push EI hold' (fun _ _ _=>rfl) (fun b o v h=> ?_) hk (fun _=>gb _) ?_
   ·have:=hS.sub b o v h
    rw[Vk (hold' b (dp this))];exact this
   ·refine⟨h0,Ql _,(fun h=>by cases h),h1,fun _=> ?_⟩
    rw[Ye];refine⟨Si,hS.MN (gb _),⟨vs++rest⟩,hblk,by simpa using Sj,by simp;omega,?_⟩;have:(vs++rest).take cells.length=vs:=by rw[<- ZS];simp
    simp only[this];exact hc.mono hk
  ·refine⟨by simp,rfl,fun sj ag' c' Qd nl' h=> ?_⟩
   simp at h;obtain⟨rfl,rfl,rfl,rfl,rfl⟩:=h;refine⟨by omega,fun _=> ?_⟩;refine⟨(fun h=>by cases h),fun _=> .inr ⟨w.heap.size,0,cap,rfl,fun _=>by rw[Ye];exact⟨rfl,rfl,rfl⟩,fun ps _=> .inl (by rw[Ye];exact⟨rfl,rfl⟩)⟩⟩
end fresh
end Go.AM
namespace Go.AM
open Go.RowKit
section loads
variable {P:Program}{fo:Nat->FuncId}{B0:qd}{w:World}{R:Rd}{φ:Pl}{H:List fa}
theorem XN{cells:List AV}{vs:List Value}(hc:Qb fo (K R φ H) cells vs){t:TypeId}{ag:Bool}{n b off:Nat}(ha:zg P t=some ag)(hn:ag=true->Sd P t=some n)
 (hr:∀ j v,vs[j]? =some v->w.cell? ⟨b,j,none⟩=some v) {y:AV} (hp:tg ag n cells off=some y):
 ∃ v,(loadVar t ⟨b,off,none⟩).run P w= .ok v w/\Yb fo (K R φ H) y v:=by
 cases ag with
 |true=>
  simp only[tg,if_true] at hp
  split at hp
  ·injection hp with hp
   subst hp;rename_i hle;have h2:=(hc.drop off).take n
   have hl:=hc.length
   refine⟨_,O7 (vs:=(vs.drop off).take n) w ha (hn rfl) (by simp;omega) (fun j v hj=>hr _ _ ?_),IN h2⟩;rw[wm] at hj
   split at hj
   ·rw[CK] at hj;exact hj
   ·cases hj
  ·cases hp
 |false=>
  simp only[tg,Sc,if_false] at hp;obtain⟨v,hv,h2⟩:=hc.get hp
  exact⟨v,P7 w ha (hr _ _ hv),h2⟩
theorem o6(hS:Lb fo B0 w R φ H){row:List PV}{b o:Nat}(Xc:Cd R row b o){t:TypeId}{ag:Bool}{n off:Nat}(ha:zg P t=some ag)(hn:ag=true->Sd P t=some n)
 {y:PV} (hp:Dj ag n row off=some y):∃ v,(loadVar t ⟨b,o+off,none⟩).run P w= .ok v w/\Na R y v:=by
 cases ag with
 |true=>
  simp only[Dj,if_true] at hp
  split at hp
  ·injection hp with hp
   subst hp;rename_i hle;obtain⟨vs,h2,_,h3⟩:=((Xc.drop off).take n).list
   have hl:=h2.length
   refine⟨_,O7 (vs:=vs) w ha (hn rfl) (by rw[hl];simp;omega) (fun j v hj=>hS.sub _ _ _ (h3 j v hj)),.agg _ _ h2⟩
  ·cases hp
 |false=>
  simp only[Dj,Sc,if_false] at hp;obtain⟨v,hv,h2⟩:=Xc.get hp
  exact⟨v,P7 w ha (hS.sub _ _ _ hv),h2⟩
theorem R2(hS:Lb fo B0 w R φ H){x:AV}{vx:Value}(hx:Yb fo (K R φ H) x vx){t:TypeId}{ag:Bool}{n:Nat}(ha:zg P t=some ag)(hn:ag=true->Sd P t=some n)
 {y:AV} (hl:wa H ag n x=some y):∃ v,(Instr.loadAt t vx).run P w= .ok v w/\Yb fo (K R φ H) y v:=by
 have go:∀ (a:Addr),(Instr.loadAt t (.pointer (some a))).run P w=(loadVar t a).run P w:=by intro a;simp[Instr.loadAt,Instr.sureAddr]
 cases hx with
 |atom x vx hx=>
  cases x with
  |pv p=>
   cases p with
   |rp row off=>
    have hx:Na R (.rp row off) vx:=hx;simp only[wa,dc] at hl;obtain⟨q,hq,rfl⟩:=hl;cases hx with
    |rp _ _ b o Xc=>obtain⟨v,h1,h2⟩:=o6 hS Xc ha hn hq;exact⟨v,by rw[go];exact h1,.atom _ _ h2⟩
   |_=>simp[wa] at hl
  |ptr id off=>
   simp only[wa] at hl
   split at hl
   ·rename_i c hc
    obtain⟨h1,h2,_,arr,h3,h4⟩:=hS.obj id _ hc
    rw[hx.2.2 c hc];obtain⟨v,k1,k2⟩:=XN (w:=w) (b:=(φ id).1) h4 ha hn (fun j v hj=>by rw[h3.cell];simpa using hj) hl;exact⟨v,by rw[go];exact k1,k2⟩
   ·cases hl
  |Sb id m off=>
   simp only[wa] at hl
   split at hl
   ·rename_i sz ag' c fl nl hc
    obtain⟨k0,kk⟩:=hx.2.2 _ _ _ _ _ hc
    obtain⟨h0,h1,h2,pn,h3⟩:=hS.obj id _ hc
    split at hl
    ·rename_i hm
     rw[(kk (by omega)).1 hm];cases nl with
     |true=>
      have:=h2 rfl;subst this;obtain⟨v,k1,k2⟩:=XN (w:=w) (b:=(φ id).1) (vs:=[]) (fo:=fo) (R:=R) (φ:=φ) (H:=H) .nil ha hn (fun j v hj=>by simp at hj) hl
      exact⟨v,by rw[go];exact k1,k2⟩
     |false=>
      obtain⟨k1,k2,arr,k3,k4,k5,k6⟩:=h3 rfl;obtain⟨v,q1,q2⟩:=XN (w:=w) (b:=(φ id).1) k6 ha hn (fun j v hj=>by
       rw[k3.cell];rw[wm] at hj
       split at hj
       ·simpa using hj
       ·cases hj) hl
      exact⟨v,by rw[go];exact q1,q2⟩
    ·split at hl
     ·rename_i hm hf
      obtain⟨hf,hm0⟩:=hf;simp only[Hd,dc] at hl;obtain⟨ps,hps,q,hq,rfl⟩:=hl;have Wc:nl=false:=by
       cases nl with
       |false=>rfl
       |true=>have:=h2 rfl;subst this;simp only[Ch] at k0 hm;omega
      subst Wc;obtain⟨k1,k2,arr,k3,k4,k5,k6⟩:=h3 rfl;have Ss:(c.take m).length=ps.length:=by have:=Sk hps;rw[this];simp
      ·rcases (kk hf).2 ps hps hm0 with rfl | ⟨b,o,rfl,hr⟩
       ·have h7:=Tt hps (k6.take m)
        have hA:Qb fo (K R φ H) (ps.map .pv) ((arr.toList.take c.length).take m):=Qb.RB h7
        have Zs:tg ag n (ps.map .pv) off=some (.pv q):=by
         unfold Dj at hq;unfold tg;cases ag with
         |true=>
          simp only[if_true] at hq ⊢
          split at hq
          ·injection hq with hq;subst hq
           rw[if_pos (by simpa using ‹off+n<=ps.length›)];simp[mq,<-List.map_drop,<-List.map_take,naa]
          ·cases hq
         |false=>simp only[Sc,if_false] at hq ⊢;simp[hq]
        obtain⟨v,q1,q2⟩:=XN (w:=w) (b:=(φ id).1) hA ha hn (fun j v hj=>by
         rw[k3.cell];rw[wm] at hj
         split at hj
         ·rw[wm] at hj
          split at hj
          ·simpa using hj
          ·cases hj
         ·cases hj) Zs
        exact⟨v,by rw[go];exact q1,q2⟩
       ·obtain⟨v,q1,q2⟩:=o6 hS hr ha hn hq
        exact⟨v,by rw[go];exact q1,.atom _ _ q2⟩
     ·cases hl
   ·cases hl
  |_=>simp[wa] at hl
 |_=>simp[wa] at hl
theorem K.uW{id:Nat}{c c':List AV}(hc:H[id]? =some (.box c))(a:AV)(v:Value)(h:K R φ H a v):K R (Zc φ id (φ id)) (H.set id (.box c')) a v:=by
 have hφ:Zc φ id (φ id)=φ:=by
  funext i
  unfold Zc
  split
  ·rename_i e;rw[e]
  ·rfl
 rw[hφ];have Ma:=getElem?_lt hc;have Wd:∀ {i:Nat}{x:fa},(H.set id (.box c'))[i]? =some x->(i≠id/\H[i]? =some x)\/(i=id/\x= .box c'):=by
  intro i x hx
  by_cases h:i=id
  ·subst h;rw[Of Ma] at hx;injection hx with hx;exact .inr ⟨rfl,hx.symm⟩
  ·rw[ze (tf h)] at hx;exact .inl ⟨h,hx⟩
 cases a with
 |pv p=>exact h
 |ptr i off=>
  refine⟨by simpa using h.1,h.2.1,fun c1 h1=> ?_⟩;rcases Wd h1 with⟨_,h2⟩ | ⟨rfl,_⟩
  ·exact h.2.2 _ h2
  ·exact h.2.2 _ hc
 |Sb i n off=>
  refine⟨by simpa using h.1,h.2.1,fun sz ag c1 fl nl h1=> ?_⟩;rcases Wd h1 with⟨_,h2⟩ | ⟨rfl,h2⟩
  ·exact h.2.2 _ _ _ _ _ h2
  ·cases h2
 |uq i nl sz es=>
  refine⟨by simpa using h.1,h.2.1,h.2.2.1,fun sj n nl' h1=> ?_⟩;rcases Wd h1 with⟨_,h2⟩ | ⟨rfl,h2⟩
  ·exact h.2.2.2 _ _ _ h2
  ·cases h2
 |own i len=>
  refine⟨by simpa using h.1,h.2.1,fun sz ag c1 fl nl h1=> ?_⟩;rcases Wd h1 with⟨_,h2⟩ | ⟨rfl,h2⟩
  ·exact h.2.2 _ _ _ _ _ h2
  ·cases h2
 |mp i=>
  refine⟨by simpa using h.1,h.2.1,fun es h1=> ?_⟩;rcases Wd h1 with⟨_,h2⟩ | ⟨rfl,h2⟩
  ·exact h.2.2 _ h2
  ·cases h2
 |Ec ix cs=>exact h.elim
 |agg cs=>exact h.elim
 |Ba cs=>exact h.elim
 |undef=>exact h.elim
theorem K.o8{id:Nat}{sz:Nat}{ag ag':Bool}{c c':List AV}{fl:Nat}{nl:Bool}(hc:H[id]? =some (.seq sz ag c fl nl))(hfl:fl<=c.length)(hlen:c'.length=c.length)(a:AV)(v:Value)(h:K R φ H a v):
 K R (Zc φ id (φ id)) (H.set id (.seq sz ag' c' c.length nl)) a v:=by
 have hφ:Zc φ id (φ id)=φ:=by
  funext i
  unfold Zc
  split
  ·rename_i e;rw[e]
  ·rfl
 rw[hφ];have Ma:=getElem?_lt hc;have Wd:∀ {i:Nat}{x:fa},(H.set id (.seq sz ag' c' c.length nl))[i]? =some x->(i≠id/\H[i]? =some x)\/(i=id/\x= .seq sz ag' c' c.length nl):=by
  intro i x hx
  by_cases h:i=id
  ·subst h;rw[Of Ma] at hx;injection hx with hx;exact .inr ⟨rfl,hx.symm⟩
  ·rw[ze (tf h)] at hx;exact .inl ⟨h,hx⟩
 cases a with
 |pv p=>exact h
 |ptr i off=>
  refine⟨by simpa using h.1,h.2.1,fun c1 h1=> ?_⟩;rcases Wd h1 with⟨_,h2⟩ | ⟨rfl,h2⟩
  ·exact h.2.2 _ h2
  ·cases h2
 |Sb i n off=>
  refine⟨by simpa using h.1,h.2.1,fun uz PK c1 tM Pg h1=> ?_⟩;rcases Wd h1 with⟨_,h2⟩ | ⟨rfl,h2⟩
  ·exact h.2.2 _ _ _ _ _ h2
  ·injection h2 with e1 e2 e3 e4 e5
   subst e1 e2 e3 e4 e5;obtain⟨k0,k⟩:=h.2.2 _ _ _ _ _ hc
   refine⟨by omega,fun e=> ?_⟩;have hv:=(k (by omega)).1 (by omega)
   exact⟨fun _=>hv,fun _ _ _=> .inl hv⟩
 |uq i nl sz es=>
  refine⟨by simpa using h.1,h.2.1,h.2.2.1,fun sj n nl' h1=> ?_⟩;rcases Wd h1 with⟨_,h2⟩ | ⟨rfl,h2⟩
  ·exact h.2.2.2 _ _ _ h2
  ·cases h2
 |own i len=>
  refine⟨by simpa using h.1,h.2.1,fun uz PK c1 tM Pg h1=> ?_⟩;rcases Wd h1 with⟨_,h2⟩ | ⟨rfl,h2⟩
  ·exact h.2.2 _ _ _ _ _ h2
  ·injection h2 with e1 e2 e3 e4 e5
   subst e1 e2 e3 e4 e5;obtain⟨k0,k⟩:=h.2.2 _ _ _ _ _ hc
   refine⟨by omega,fun yat=> ?_⟩;obtain⟨k1,k2⟩:=k (by omega);refine⟨k1,fun hn=> ?_⟩;rcases k2 hn with⟨q1,q2,q3⟩ | ⟨b,o,cap,q1,q2,q3⟩
   ·refine .inl ⟨q1,fun e=>q2 ?_,q3⟩
    rw[e] at hlen;exact Ze hlen.symm
   ·exact .inr ⟨b,o,cap,q1,fun e=>q2 (by omega),fun ps _=> .inl ⟨(q2 (by omega)).1,(q2 (by omega)).2.1⟩⟩
 |mp i=>
  refine⟨by simpa using h.1,h.2.1,fun es h1=> ?_⟩;rcases Wd h1 with⟨_,h2⟩ | ⟨rfl,h2⟩
  ·exact h.2.2 _ h2
  ·cases h2
 |Ec ix cs=>exact h.elim
 |agg cs=>exact h.elim
 |Ba cs=>exact h.elim
 |undef=>exact h.elim
theorem Iw{b:Nat}{arr:List Value}{ty:TypeId}{fz:Nat×Nat}{k:Nat}(h:k≠b):(Zi w b arr ty fz).heap[k]? =w.heap[k]? :=by
 simp only[Zi];rw[Array.getElem?_setIfInBounds_ne (tf h)]
theorem rF{b:Nat}{arr:List Value}{ty:TypeId}{fz:Nat×Nat}(h:b < w.heap.size):(Zi w b arr ty fz).heap[b]? =some (.cells ⟨arr⟩ ty fz):=by
 simp[Zi,h]
theorem cO{b:Nat}{arr:List Value}{ty:TypeId}{fz:Nat×Nat}(h:B0<=b){Faa:Array Value}{ty':TypeId}{xM:Nat×Nat}(h0:w.heap[b]? =some (.cells Faa ty' xM))(hs:∀ k,B0.S k->k < w.heap.size)(hf:¬B0.S b):Od B0 w (Zi w b arr ty fz):=
 .ON h0 rfl rfl rfl rfl (by simp[Zi]) h hs hf fun k _ Va=>Iw Va
theorem A8(vs:List AV):∀ (cs:List AV)(o:Nat),cs.all AV.one=true->vs.all AV.one=true->(za cs o vs).all AV.one=true:=by
 induction vs with
 |nil=>intro cs o h _;exact h
 |cons v vs ih=>
  intro cs o h h2;simp only[tm,fb] at h2;refine ih _ _ ?_ h2.2
  rw[Df] at h ⊢;intro x hx;rcases Oo hx with hx | rfl
  ·exact h x hx
  ·exact h2.1
theorem car(hS:Lb fo B0 w R φ H){p x:AV}{vp vx:Value}(hp:Yb fo (K R φ H) p vp)(hx:Yb fo (K R φ H) x vx){t:TypeId}{n:Nat}(hn:Sd P t=some n)
 {H':List fa} (hl:Db H n p x=some H'):∃ w' φ',(Instr.storeAt t vp vx).run P w= .ok () w'/\Lb fo B0 w' R φ' H'/\(∀ a u,K R φ H a u->K R φ' H' a u)/\Od B0 w w':=by
 have go:∀ (a:Addr),(Instr.storeAt t (.pointer (some a)) vx).run P w=(storeVar t a vx).run P w:=by intro a;simp[Instr.storeAt,Instr.sureAddr]
 unfold Db at hl
 split at hl
 case isFalse=>cases hl
 rename_i Ts;obtain⟨fc,mf⟩:=Ts;have Xv:=DL hx mf;have uu:vx.cells.toList.length=n:=by rw[Xv.length];exact fc
 have HZ:=Pu Xv mf;cases hp with
 |atom p vp hp=>
  cases p with
  |ptr id off=>
   dsimp only at hl
   split at hl
   ·rename_i c hc
    split at hl
    ·rename_i hle
     injection hl with hl
     subst hl;obtain⟨h1,h2,pn,arr,⟨ty,fz,h3,Lh⟩,h4⟩:=hS.obj id _ hc
     have Ma:=getElem?_lt hc;have hlen:=h4.length
     rw[hp.2.2 c hc,go];have zc:=Q7 (P:=P) (o:=off) (v:=vx) w hn uu (b:=(φ id).1) (arr:=arr.toList) (ty:=ty) (fz:=fz) h3 (by simpa using Lh) (by rw[hlen];exact hle) HZ;have hlt:(φ id).1 < w.heap.size:=xg.lt ⟨ty,fz,h3,Lh⟩
     have hk:=fun a v=>K.uW (R:=R) (φ:=φ) (c':=za c off x.cells) hc a v
     refine⟨_,Zc φ id (φ id),zc,?_,hk,cO h1 h3 hS.slt (hS.free id ⟨_,hc,trivial⟩)⟩;refine hS.Zc (w':=Zi w (φ id).1 (za arr.toList off vx.cells.toList) ty fz) hc (by simp[Zi]) (fun b hb Va=>Iw (Va trivial)) (fun _ _ _ _=>rfl) (fun b o v hv=> ?_) hk (fun _=> .inl ⟨trivial,rfl⟩) ?_
     ·rw[Vk (Iw (fun e=>by subst e;rw[h2] at hv;cases hv))];exact hS.sub b o v hv
     ·refine⟨by rw[Ye];exact h1,by rw[Ye];exact h2,A8 _ _ _ pn mf,⟨za arr.toList off vx.cells.toList⟩,?_,?_⟩
      ·rw[Ye]
       exact⟨ty,fz,rF hlt,fun o ho=>Lh o (by simpa[Qm] using ho)⟩
      ·exact (h4.mono hk).za off (Xv.mono hk)
    ·cases hl
   ·cases hl
  |Sb id m off=>
   dsimp only at hl
   split at hl
   ·rename_i sz ag c fl nl hc
    split at hl
    ·rename_i hle
     injection hl with hl
     subst hl;obtain⟨hm,hle⟩:=hle;obtain⟨h0,h1,h2,pn,h3⟩:=hS.obj id _ hc
     rw[((hp.2.2 _ _ c _ _ hc).2 (by omega)).1 hm,go];subst hm;have hk:=fun a v=>K.o8 (R:=R) (φ:=φ) (ag':=ag) (c':=za c off x.cells) hc h1 (Qm _ _ _) a v
     cases nl with
     |true=>
      have su:=h2 rfl;subst su;have xo:n=0:=by simp at hle;omega
      subst xo;have dt:vx.cells.toList=[]:=Ze uu
      have I0:x.cells=[]:=Ze fc
      refine⟨w,Zc φ id (φ id),?_,?_,hk,Od.refl _ _⟩
      ·have:vx.cells.size=0:=by simpa using uu
       simp[storeVar,qj hn,this,dt,storeCells]
      ·refine hS.Zc (w':=w) hc (gb _) (fun _ _ _=>rfl) (fun _ _ _ _=>rfl) hS.sub hk (fun h=>by cases h) ?_
       exact⟨h0,by simp[Qm],(fun _=>by rw[I0];rfl),(by rw[I0];rfl),fun h=>by cases h⟩
     |false=>
      obtain⟨k1,k2,arr,⟨ty,fz,k3,Lh⟩,k4,k5,k6⟩:=h3 rfl;have zc:=Q7 (P:=P) (o:=off) (v:=vx) w hn uu (b:=(φ id).1) (arr:=arr.toList) (ty:=ty) (fz:=fz) k3 (by simpa using Lh) (by simp;omega) HZ;have hlt:(φ id).1 < w.heap.size:=xg.lt ⟨ty,fz,k3,Lh⟩
      refine⟨_,Zc φ id (φ id),zc,?_,hk,cO k1 k3 hS.slt (hS.free id ⟨_,hc,rfl⟩)⟩;refine hS.Zc (w':=Zi w (φ id).1 (za arr.toList off vx.cells.toList) ty fz) hc (by simp[Zi]) (fun b hb Va=>Iw (Va rfl)) (fun _ _ _ _=>rfl) (fun b o v hv=> ?_) hk (fun _=> .inl ⟨rfl,rfl⟩) ?_
      ·rw[Vk (Iw (fun e=>by subst e;rw[k2] at hv;cases hv))];exact hS.sub b o v hv
      ·refine⟨h0,by rw[Qm];exact gb _,(fun h=>by cases h),A8 _ _ _ pn mf,fun _=> ?_⟩
       rw[Ye];refine⟨k1,k2,⟨za arr.toList off vx.cells.toList⟩,⟨ty,fz,rF hlt,fun o ho=>Lh o (by simpa[Qm] using ho)⟩,by simpa[Qm] using k4,by simpa[Qm] using k5,?_⟩;have hq:=(k6.mono hk).za off (Xv.mono hk)
       have:(za arr.toList off vx.cells.toList).take (za c off x.cells).length=za (arr.toList.take c.length) off vx.cells.toList:=by rw[Qm];exact aaq _ _ _ _ (by omega)
       dsimp only;rw[this];exact hq
    ·cases hl
   ·cases hl
  |_=>simp at hl
 |_=>simp at hl
end loads
end Go.AM
namespace Go.AM
open Go.RowKit
def wd(w:World)(d:Nat):World:={w with drawn:=d}
structure Src(P:Program)(w:World)(vx:Value)(sz n:Nat)(news:List Value):Prop where
 len:∀ d,(Builtin.lenOf vx).run P (wd w d)= .ok n (wd w d)
 cells:∀ d,(Builtin.firstCells sz n vx).run P (wd w d)= .ok ⟨news⟩ (wd w d)
 num:news.length=n * sz
 one:∀ v∈news,v.oneCell'=true
section append
variable {P:Program}{fo:Nat->FuncId}{B0:qd}{w:World}{R:Rd}{φ:Pl}{H:List fa}
theorem vas(d b o:Nat):(wd w d).cell? ⟨b,o,none⟩=w.cell? ⟨b,o,none⟩:=rfl
theorem pJ{b o:Nat}{vs:List Value}(hc:∀ j v,vs[j]? =some v->w.cell? ⟨b,o+j,none⟩=some v){n:Nat}(hn:vs.length=n):(loadCells ⟨b,o,none⟩ n).run P w= .ok ⟨vs⟩ w:=by
 have:=run_loadCells_list (P:=P) w ⟨b,o,none⟩ vs (fun j v hv=>by rw[wv];exact hc j v hv);rw[hn] at this;simpa using this
theorem Src.slice{b o n cap sz:Nat}{vs:List Value}(hc:∀ j v,vs[j]? =some v->w.cell? ⟨b,o+j,none⟩=some v)(hn:vs.length=n * sz)(h1:∀ v∈vs,v.oneCell'=true):
 Src P w (.slice (some ⟨b,o,none⟩) n cap) sz n vs:=
 ⟨fun d=>by simp[Builtin.lenOf],fun d=>by
  show (loadCells _ _).run P _=_
  exact pJ (w:=wd w d) hc hn,hn,h1⟩
theorem Src.nil(sz:Nat):Src P w (.slice none 0 0) sz 0 []:=
 ⟨fun d=>by simp[Builtin.lenOf],fun d=>by simp[Builtin.firstCells],by simp,by simp⟩
theorem Src.str(s:ByteArray):Src P w (.string s) 1 s.size (s.data.toList.map fun b=> .int .u8 b.toNat):=by
 refine⟨fun d=>by simp[Builtin.lenOf],fun d=> ?_,by rw[wb,wC,Nat.mul_one];rfl,?_⟩
 ·simp only[Builtin.firstCells,Sem.run_pure]
  congr 1
  apply Pk;simp
 ·intro v hv
  simp only[Re] at hv;obtain⟨b,_,rfl⟩:=hv;rfl
theorem run_append_room{t tx ty e:TypeId}{dx:TypeDesc}{b n0 cap sz n:Nat}{arr news:List Value}{et:TypeId}{fz:Nat×Nat}{vx:Value}(hu:P.underlying t=some (.slice e))(hux:P.underlying tx=some dx)
 (hdx:dx= .slice e\/dx= .string) (ib:Sd P e=some sz) (hs:Src P w vx sz n news) (hb:w.heap[b]? =some (.cells ⟨arr⟩ et fz)) (hf:∀ j,j < arr.length->¬(fz.1<=j/\j < fz.2)) (qu:arr.length=cap * sz)
 (xr:n0+n<=cap):(Builtin.append_ #[t,tx] ty #[.slice (some ⟨b,0,none⟩) n0 cap,vx]).run P w= .ok (.slice (some ⟨b,0,none⟩) (n0+n) cap) (Zi w b (za arr (n0 * sz) news) et fz):=by
 have h1:=hs.len w.drawn
 have h2:=hs.cells w.drawn
 rw[show wd w w.drawn=w from rfl] at h1 h2;have hle:n0 * sz+0+news.length<=arr.length:=by rw[hs.num,qu];have:=Rt sz xr;rw[Nat.add_mul] at this;omega
 have h3:=VU (P:=P) (b:=b) (n0 * sz) news 0 arr w hb hf hle hs.one
 rcases hdx with rfl | rfl <;>
  simp[Builtin.append_,run_underlying hu,run_underlying hux,qj ib,h1,h2,xr,wv,h3]
theorem run_append_nil{t tx ty e:TypeId}{dx:TypeDesc}{sz:Nat}{vx:Value}(hu:P.underlying t=some (.slice e))(hux:P.underlying tx=some dx)
 (hdx:dx= .slice e\/dx= .string) (ib:Sd P e=some sz) (hs:Src P w vx sz 0 []):(Builtin.append_ #[t,tx] ty #[.slice none 0 0,vx]).run P w= .ok (.slice none 0 0) w:=by
 have h1:=hs.len w.drawn
 have h2:=hs.cells w.drawn
 rw[show wd w w.drawn=w from rfl] at h1 h2;rcases hdx with rfl | rfl <;>
  simp[Builtin.append_,run_underlying hu,run_underlying hux,qj ib,h1,h2]
def dP(P:Program)(e:TypeId)(sz:Nat):Bool:=
 match P.info? e with
 |some i=>match i.zero with
  |some z=>z.cells.size==sz
  |none=>false
 |none=>false
theorem run_append_grow{t tx ty e:TypeId}{dx:TypeDesc}{n0 cap sz n bytes:Nat}{olds news:List Value}{base:Option Addr}{vx:Value}(hu:P.underlying t=some (.slice e))(hux:P.underlying tx=some dx)
 (hdx:dx= .slice e\/dx= .string) (ib:Sd P e=some sz) (hby:Qq P e=some bytes) (Im:0 < bytes) (hz:dP P e sz=true) (hs:Src P w vx sz n news)
 (ho:∀ d,(Builtin.firstCells sz n0 (.slice base n0 cap)).run P (wd w d)= .ok ⟨olds⟩ (wd w d)) (xr:cap < n0+n) (RM:(n0+n) * bytes<=140737488355328):
 ∃ gU rest w',(Builtin.append_ #[t,tx] ty #[.slice base n0 cap,vx]).run P w= .ok (.slice (some ⟨w.heap.size,0,none⟩) (n0+n) gU) w'/\n0+n<=gU/\rest.length=(gU - (n0+n)) * sz/\
  w'.heap=w.heap.push (.cells ⟨olds++news++rest⟩ e)/\w'.os=w.os/\w'.tape=w.tape/\w'.output=w.output:=by
 have h1:=hs.len w.drawn
 rw[show wd w w.drawn=w from rfl] at h1;unfold dP at hz;unfold Qq at hby;cases hi:P.info? e with
 |none=>simp[hi] at hz
 |some i=>
  simp only[hi] at hz;cases Vj:i.zero with
  |none=>simp[Vj] at hz
  |some z=>
   simp only[Vj,beq_iff_eq] at hz;simp only[hi,Vc,xb] at hby;have Eat:¬cap>=n0+n:=by omega
   have hle:=nextslicecap_le xr;have ff:¬(Builtin.nextslicecap (n0+n) cap * i.bytes > 2 ^ 48):=by rw[hby];have:=Rt bytes hle;rw[Nat.mul_assoc] at this;omega
   have Vd:¬i.bytes=0:=by omega
   have Ts:¬(((n0+n:Nat):Int) > IntKind.i64.max/\(false=true\/i.bytes=0)):=by
    rintro⟨_,h | h⟩
    ·cases h
    ·exact Vd h
   have h2:=hs.cells (w.drawn+1)
   have h3:=ho (w.drawn+1);have NS:(Question.appendCap (n0+n) cap e).forced=false:=rfl
   have hzv:∀ d,(zeroValue e).run P (wd w d)= .ok z (wd w d):=fun d=>by simp[zeroValue,run_typeInfo (wd w d) hi,Vj]
   have hti:∀ d,(typeInfo e).run P (wd w d)= .ok i (wd w d):=fun d=>run_typeInfo (wd w d) hi
   have hti0:(typeInfo e).run P w= .ok i w:=run_typeInfo w hi
   have gB:(choose (.appendCap (n0+n) cap e)).run P w= .ok ((Question.appendCap (n0+n) cap e).cut (w.tape w.drawn (.appendCap (n0+n) cap e))) (wd w (w.drawn+1)):=by simp[NS];rfl
   have Sj:n0+n<=(Question.appendCap (n0+n) cap e).cut (w.tape w.drawn (.appendCap (n0+n) cap e)):=by simp only[Question.cut];omega
   generalize (Question.appendCap (n0+n) cap e).cut (w.tape w.drawn (.appendCap (n0+n) cap e))=C at gB Sj
   have Maj:¬n0+n<=cap:=by omega
   have Pe:(if ((n0+n:Nat):Int) > IntKind.i64.max/\(false=true\/i.bytes=0) then (runtimePanic (.error "growslice: len out of range"):Sem PUnit) else pure PUnit.unit)=pure PUnit.unit:=qa Ts
   refine⟨C,(Builtin.zeroCells z.cells (C - (n0+n))).toList,{wd w (w.drawn+1) with heap:=w.heap.push (.cells ⟨olds++news++(Builtin.zeroCells z.cells (C - (n0+n))).toList⟩ e)},?_,Sj,?_,rfl,rfl,rfl,rfl⟩
   ·have qu:(⟨olds⟩:Array Value)++(⟨news⟩:Array Value)++Builtin.zeroCells z.cells (C - (n0+n))=⟨olds++news++(Builtin.zeroCells z.cells (C - (n0+n))).toList⟩:=by
     apply Pk;simp
    have gN:¬(IntKind.i64.max < ((n0+n:Nat):Int)/\i.bytes=0):=fun h=>Vd h.2
    rcases hdx with rfl | rfl <;>
     simp only[Builtin.append_,List.getElem?_toArray,Kj,Jj,Sem.run_bind,run_underlying hu,run_underlying hux,Result.andThen_ok,qj ib,Sem.run_pure,Sc,if_false,h1,Maj,Sem.run_ite,
      hti0,ff,Vd,gB,h2,h3,hti,hzv,run_askRoom,false_or,and_false,gt_iff_lt,newRow,run_newObj,qu,Bool.not_false,if_true] <;> rfl
   ·simp[size_zeroCells,hz]
end append
end Go.AM
namespace Go.AM
open Go.RowKit
section tok
variable {P:Program}{fo:Nat->FuncId}{B0:qd}{w:World}{R:Rd}{φ:Pl}{H:List fa}
theorem K.o9{id sz n n':Nat}{nl nl':Bool}{p:Nat×Nat}(hc:H[id]? =some (.tok sz n nl))(hn:n < n'\/(n=n'/\nl'=nl/\p=φ id))(a:AV)(v:Value)(h:K R φ H a v):
 K R (Zc φ id p) (H.set id (.tok sz n' nl')) a v:=by
 have Ma:=getElem?_lt hc;have Wd:∀ {i:Nat}{x:fa},(H.set id (.tok sz n' nl'))[i]? =some x->(i≠id/\H[i]? =some x)\/(i=id/\x= .tok sz n' nl'):=by
  intro i x hx
  by_cases h:i=id
  ·subst h;rw[Of Ma] at hx;injection hx with hx;exact .inr ⟨rfl,hx.symm⟩
  ·rw[ze (tf h)] at hx;exact .inl ⟨h,hx⟩
 cases a with
 |pv p=>exact h
 |ptr i off=>
  refine⟨by simpa using h.1,h.2.1,fun c1 h1=> ?_⟩;rcases Wd h1 with⟨Va,h2⟩ | ⟨rfl,h2⟩
  ·rw[Nf _ _ Va];exact h.2.2 _ h2
  ·cases h2
 |Sb i n off=>
  refine⟨by simpa using h.1,h.2.1,fun sz ag c1 fl nl h1=> ?_⟩;rcases Wd h1 with⟨Va,h2⟩ | ⟨rfl,h2⟩
  ·rw[Nf _ _ Va];exact h.2.2 _ _ _ _ _ h2
  ·cases h2
 |uq i Pg uz es=>
  refine⟨by simpa using h.1,h.2.1,h.2.2.1,fun sz2 n2 nl2 h1=> ?_⟩;rcases Wd h1 with⟨Va,h2⟩ | ⟨rfl,h2⟩
  ·rw[Nf _ _ Va];exact h.2.2.2 _ _ _ h2
  ·injection h2 with e1 e2 e3
   subst e1 e2 e3;obtain⟨k1,k2⟩:=h.2.2.2 _ _ _ hc
   rcases hn with hlt | ⟨rfl,rfl,rfl⟩
   ·exact⟨by omega,fun e=>by omega⟩
   ·rw[Ye];exact⟨k1,k2⟩
 |own i len=>
  refine⟨by simpa using h.1,h.2.1,fun sz ag c1 fl nl h1=> ?_⟩;rcases Wd h1 with⟨Va,h2⟩ | ⟨rfl,h2⟩
  ·rw[Nf _ _ Va];exact h.2.2 _ _ _ _ _ h2
  ·cases h2
 |mp i=>
  refine⟨by simpa using h.1,h.2.1,fun es h1=> ?_⟩;rcases Wd h1 with⟨Va,h2⟩ | ⟨rfl,h2⟩
  ·rw[Nf _ _ Va];exact h.2.2 _ h2
  ·cases h2
 |Ec ix cs=>exact h.elim
 |agg cs=>exact h.elim
 |Ba cs=>exact h.elim
 |undef=>exact h.elim
theorem Cc.append{ps qs:List PV}{vs us:List Value}(h:Cc R ps vs)(h':Cc R qs us):Cc R (ps++qs) (vs++us):=by
 induction ps generalizing vs with
 |nil=>cases h;simpa using h'
 |cons p ps ih=>cases h with | cons _ _ v vs h1 h2=>exact .cons _ _ _ _ h1 (ih h2)
theorem Src.none(a:Addr)(sz:Nat):Src P w (.slice (some a) 0 0) sz 0 []:=
 ⟨fun d=>by simp[Builtin.lenOf],fun d=>by
  show (loadCells _ _).run P _=_
  simp[loadCells,loadCellsFrom],by simp,by simp⟩
theorem O8(hS:Lb fo B0 w R φ H){sz:Nat}{ys:List PV}{vx:Value}(h:Na R (.lit sz ys) vx):
 ∃ news,Cc R (flat ys) news/\Src P w vx sz ys.length news/\∀ e∈ys,e.cells.length=sz:=by
 cases h with
 |lit _ _ b o cap h1 h2 h3=>
  obtain⟨vs,k1,k2,k3⟩:=h3.list
  exact⟨vs,k1,Src.slice (fun j v hj=>hS.sub _ _ _ (k3 j v hj)) (by rw[k1.length,IH h2]) k2,h2⟩
 |Br _ a=>exact⟨[],.nil,Src.none a sz,by simp⟩
theorem iV(hS:Lb fo B0 w R φ H){x:AV}{vx:Value}(hx:Yb fo (K R φ H) x vx){sz:Nat}{ys:List PV}(h:Bg sz x=some ys):
 ∃ news,Cc R (flat ys) news/\Src P w vx sz ys.length news/\∀ e∈ys,e.cells.length=sz:=by
 cases hx with
 |atom x vx hx=>
  cases x with
  |pv p=>
   have hx:Na R p vx:=hx;cases p with
   |oa=>simp[Bg] at h;subst h;cases hx;exact⟨[],.nil,Src.nil sz,by simp⟩
   |lit s cP=>
    simp only[Bg] at h
    split at h
    ·injection h with h;rename_i e;subst e h;exact O8 hS hx
    ·cases h
   |str s=>
    simp only[Bg] at h
    split at h
    ·injection h with h;rename_i e;subst e h
     cases hx;refine⟨_,?_,by have:=Src.str (P:=P) (w:=w) s;rwa [show s.size=(s.data.toList.map fun b=>PV.int .u8 b.toNat).length from by rw[wb,wC];rfl] at this,by intro e he;simp only[Re] at he;obtain⟨b,_,rfl⟩:=he;rfl⟩;clear hS
     induction s.data.toList with
     |nil=>exact .nil
     |cons b l ih=>exact .cons _ _ _ _ (.int _ _) ih
    ·cases h
   |_=>simp[Bg] at h
  |uq id nl s es=>
   simp only[Bg] at h
   split at h
   ·injection h with h;rename_i e;subst e h
    cases nl with
    |true=>
     obtain⟨rfl,rfl⟩:=hx.2.1 rfl
     exact⟨[],.nil,Src.nil _,by simp⟩
    |false=>exact O8 hS (hx.2.2.1 rfl)
   ·cases h
  |_=>simp[Bg] at h
 |_=>simp[Bg] at h
theorem Lr{α:Type}(vs:List α):∀ (cs:List α)(o j:Nat),j < o->(za cs o vs)[j]? =cs[j]? :=by
 induction vs with
 |nil=>intro cs o j _;rfl
 |cons v vs ih=>intro cs o j h;simp only[za];rw[ih _ _ _ (by omega),ze (by omega)]
theorem x8{α:Type}(vs:List α):∀ (cs:List α)(o j:Nat)(v:α),vs[j]? =some v->o+vs.length<=cs.length->(za cs o vs)[o+j]? =some v:=by
 induction vs with
 |nil=>intro cs o j v h;simp at h
 |cons u vs ih=>
  intro cs o j v h hl;simp only[Td] at hl;cases j with
  |zero=>simp at h;subst h;show (za (cs.set o u) (o+1) vs)[o]? =some u;rw[Lr _ _ _ _ (by omega),Of (by omega)]
  |succ j=>simp only[za];rw[show o+(j+1)=o+1+j from by omega];exact ih _ _ _ _ (by simpa using h) (by simp;omega)
theorem Na.zal{sz:Nat}{es:List PV}{b len cap:Nat}(h:Na R (.lit sz es) (.slice (some ⟨b,0,none⟩) len cap)):len=es.length/\es.length<=cap/\(∀ e∈es,e.cells.length=sz)/\Cd R (flat es) b 0:=by
 cases h with
 |lit _ _ _ _ _ h1 h2 h3=>exact⟨rfl,h1,h2,h3⟩
 |Br _ _=>exact⟨rfl,gb _,by simp,.nil _ _⟩
structure LJ(P:Program)(t tx e:TypeId)(sz bytes:Nat):Prop where
 hu:P.underlying t=some (.slice e)
 hx:∃ dx,P.underlying tx=some dx/\(dx= .slice e\/dx= .string)
 bq:Sd P e=some sz
 RM:Qq P e=some bytes
 pos:0 < bytes
 pos':0 < sz
 hzero:dP P e sz=true
theorem Baa(hS:Lb fo B0 w R φ H){t tx ty e:TypeId}{sz bytes:Nat}(hA:LJ P t tx e sz bytes){id n:Nat}{nl nl':Bool}{es ys:List PV}{vs vx:Value}{x:AV}
 (hs:Yb fo (K R φ H) (.uq id nl sz es) vs) (hx:Yb fo (K R φ H) x vx) (Ma:H[id]? =some (.tok sz n nl')) (hn:n=es.length) (hy:Bg sz x=some ys) (hroomb:(es.length+ys.length) * bytes<=140737488355328):
 Je fo B0 w R φ H ((Builtin.append_ #[t,tx] ty #[vs,vx]).run P w) (.uq id (nl&&ys.isEmpty) sz (es++ys)) (H.set id (.tok sz (es.length+ys.length) (nl&&ys.isEmpty))):=by
 obtain⟨news,hl,Fg,VM⟩:=iV (P:=P) hS hx hy;obtain⟨dx,hux,hdx⟩:=hA.hx
 have Bn:K R φ H (.uq id nl sz es) vs:=by cases hs with | atom _ _ h=>exact h
 obtain⟨hlt,k1,k2,k3⟩:=Bn;obtain⟨k4,k5⟩:=k3 _ _ _ Ma;obtain⟨e1,e2,k6⟩:=k5 hn;subst e1 hn;have Si:=hS.low
 obtain⟨o1,o2,o3⟩:=hS.obj id _ Ma
 have aN:∀ o,id < (H.set id o).length:=fun o=>by simpa using hlt
 have grow:∀ (base:Option Addr)(cap:Nat)(olds:List Value),vs= .slice base es.length cap->(∀ d,(Builtin.firstCells sz es.length (.slice base es.length cap)).run P (wd w d)= .ok ⟨olds⟩ (wd w d))->
  Cc R (flat es) olds->(∀ e∈es,e.cells.length=sz)->(∀ v∈olds,v.oneCell'=true)->cap < es.length+ys.length->
  Je fo B0 w R φ H ((Builtin.append_ #[t,tx] ty #[vs,vx]).run P w) (.uq id (nl'&&ys.isEmpty) sz (es++ys)) (H.set id (.tok sz (es.length+ys.length) (nl'&&ys.isEmpty))):=by
  intro base cap olds hv Zv sg xn mf Sj;subst hv;obtain⟨C,rest,w',jd,hC,JE,hheap,hos,htape,Gi⟩:=run_append_grow (ty:=ty) hA.hu hux hdx hA.bq hA.RM hA.pos hA.hzero Fg Zv Sj hroomb
  have Va:(nl'&&ys.isEmpty)=false:=by
   cases nl' with
   |false=>rfl
   |true=>
    cases ys with
    |nil=>obtain⟨q1,q2⟩:=k1 rfl;simp[q2] at Sj
    |cons y ys=>rfl
  rw[Va];have IT:0 < ys.length:=by
   cases ys with
   |nil=>
    exfalso;cases nl' with
    |true=>simp at Va
    |false=>
     have h6:=k6 rfl;injection h6 with h61 h62 h63
     obtain⟨arr,ha⟩:=(o3 rfl).2.2
     have:=ha.2.2
     rw[ha.2.1] at this;have:=iG this hA.pos'
     simp at Sj;omega
   |cons y ys=>simp
  have Km:olds.length=es.length * sz:=by rw[sg.length,IH xn]
  have Taj:w.heap.size < w'.heap.size:=by rw[hheap];simp
  have hold':∀ b,b < w.heap.size->w'.heap[b]? =w.heap[b]? :=fun b hb=>by rw[hheap];exact Pp hb
  have hblk:xg w' w.heap.size ⟨olds++news++rest⟩:=⟨e,(0,0),by rw[hheap];simp,fun o _ h=>by omega⟩
  have hcell:∀ o,w'.cell? ⟨w.heap.size,o,none⟩=(olds++news++rest)[o]? :=fun o=>by rw[hblk.cell];simp
  have hsub:=pM hS (fun o=>if o < (es.length+ys.length) * sz then (olds++news++rest)[o]? else none);have hk:=fun a v h=>K.o9 (R:=qi R w.heap.size (fun o=>if o < (es.length+ys.length) * sz then (olds++news++rest)[o]? else none)) (φ:=φ) (n':=es.length+ys.length) (nl':=false) (p:=(w.heap.size,C)) Ma (.inl (by omega)) a v (K.sub hsub a v h)
  have oS:Na (qi R w.heap.size (fun o=>if o < (es.length+ys.length) * sz then (olds++news++rest)[o]? else none)) (.lit sz (es++ys)) (.slice (some ⟨w.heap.size,0,none⟩) (es.length+ys.length) C):=by
   have:=Na.lit (R:=qi R w.heap.size (fun o=>if o < (es.length+ys.length) * sz then (olds++news++rest)[o]? else none)) sz (es++ys) w.heap.size 0 C (by simpa using hC)
    (by intro x hx;rcases Bd.1 hx with h | h;exact xn x h;exact VM x h) (by
     rw[nY];refine Cd.Ct ((sg.append hl).mono hsub) (fun v hv=>by rcases Bd.1 hv with h | h;exact mf v h;exact Fg.one v h) fun i v hi=> ?_
     have By:=getElem?_lt hi;simp only[Pc,Km,Fg.num] at By;have:i < (es.length+ys.length) * sz:=by rw[Nat.add_mul];exact By
     simp only[qi,if_true,De,this];rw[Kc (by simp[Km,Fg.num];exact By)];exact hi)
   simpa using this
  refine⟨_,w',_,Zc φ id (w.heap.size,C),jd,?_,.atom _ _ ?_,hk,.Yy ⟨hos,htape,Gi,by omega,fun k hk=>by rw[hheap];exact Pp hk⟩ Si hS.slt⟩
  ·refine hS.Zc Ma (by omega) (fun b hb _=>hold' b hb) (fun b o hb _=>by unfold qi;rw[qa (by omega)]) (fun b o v h=> ?_) hk (fun _=> .inr (gb _)) ?_
   ·unfold qi at h
    split at h
    ·rename_i e;subst e;rw[hcell]
     dsimp only at h
     split at h
     ·exact h
     ·cases h
    ·have:=hS.sub b o v h
     rw[Vk (hold' b (dp this))];exact this
   ·refine⟨o1,(fun h=>by cases h),fun _=> ?_⟩
    rw[Ye];refine⟨Si,fun o ho=>by simp[qi];omega,⟨olds++news++rest⟩,hblk,?_,?_⟩
    ·simp only[List.size_toArray,Pc,Km,Fg.num,JE,<-Nat.add_mul]
     congr 1;omega
    ·simp only[List.size_toArray,Pc,Km,Fg.num,<-Nat.add_mul]
     omega
  ·refine⟨aN _,(fun h=>by cases h),fun _=>oS,fun sj n' nl2 h=> ?_⟩
   rw[Of hlt] at h;injection h with h;injection h with h1 h2 h3
   subst h1 h2 h3;exact⟨by simp,fun _=>⟨rfl,rfl,fun _=>by rw[Ye]⟩⟩
 cases nl' with
 |true=>
  obtain⟨rfl,rfl⟩:=k1 rfl;cases ys with
  |nil=>
   have rI:news=[]:=Ze (by rw[Fg.num];simp);subst rI;have jd:=run_append_nil (ty:=ty) hA.hu hux hdx hA.bq Fg
   have Cj:H.set id (.tok sz 0 true)=H:=by
    apply Nl;intro i
    by_cases h:i=id
    ·subst h;rw[Of hlt];exact Ma.symm
    ·rw[ze (tf h)]
   have:Je fo B0 w R φ H ((Builtin.append_ #[t,tx] ty #[.slice none 0 0,vx]).run P w) (.uq id true sz []) H:=Je.same _ hS jd hs
   simpa[Cj] using this
  |cons y ys=>exact grow none 0 [] rfl (fun d=>by simp[Builtin.firstCells]) .nil (by simp) (by simp) (by simp)
 |false=>
  have hv:=k6 rfl;obtain⟨q1,q2,arr,⟨et,fz,q3,Lh⟩,q4,q5⟩:=o3 rfl;have Yl:=k2 rfl;rw[hv] at Yl;obtain⟨_,r1,r2,r3⟩:=Na.zal Yl
  obtain⟨olds,s1,s2,s3⟩:=r3.list
  have Km:olds.length=es.length * sz:=by rw[s1.length,IH r2]
  by_cases xr:es.length+ys.length<=(φ id).2
  ·subst hv
   have Np:(φ id).1 < w.heap.size:=xg.lt ⟨et,fz,q3,Lh⟩
   have jd:=run_append_room (ty:=ty) (n0:=es.length) hA.hu hux hdx hA.bq Fg (b:=(φ id).1) (arr:=arr.toList) (et:=et) (fz:=fz) q3 (by simpa using Lh) (by simpa using q4) xr
   have yI:arr.toList.length=(φ id).2 * sz:=by simpa using q4
   have zu:es.length * sz+news.length<=arr.toList.length:=by rw[Fg.num,<-Nat.add_mul,yI];exact Rt _ xr
   have hsub:Sub R (fun b o=>if b=(φ id).1/\es.length * sz<=o then (if o < (es.length+ys.length) * sz then (za arr.toList (es.length * sz) news)[o]? else none) else R b o):=by
    intro b o v h;dsimp only;rw[qa]
    ·exact h
    ·rintro⟨rfl,ho⟩
     rw[q2 o ho] at h;cases h
   have Wc:(false&&ys.isEmpty)=false:=rfl;have hk:=fun a v h=>K.o9 (R:=fun b o=>if b=(φ id).1/\es.length * sz<=o then (if o < (es.length+ys.length) * sz then (za arr.toList (es.length * sz) news)[o]? else none) else R b o) (φ:=φ) (n':=es.length+ys.length) (nl':=false) (p:=φ id) Ma
    (by rcases Bx ys.length with h0 | h0;exact .inr ⟨by omega,rfl,rfl⟩;exact .inl (by omega)) a v (K.sub hsub a v h)
   refine⟨_,_,_,Zc φ id (φ id),jd,?_,.atom _ _ ?_,hk,cO q1 q3 hS.slt (hS.free id ⟨_,Ma,rfl⟩)⟩
   ·refine hS.Zc (w':=Zi w (φ id).1 (za arr.toList (es.length * sz) news) et fz) Ma (by simp[Zi]) (fun b hb Va=>Iw (Va rfl)) (fun b j hb Va=>qa (fun h=>Va rfl h.1)) (fun b o v h=> ?_) hk (fun _=> .inl ⟨rfl,rfl⟩) ?_
    ·split at h
     ·rename_i hc
      obtain⟨rfl,ho⟩:=hc
      split at h
      ·rw[xg.cell (arr:=⟨za arr.toList (es.length * sz) news⟩) ⟨et,fz,rF Np,fun o ho=>Lh o (by simpa[Qm] using ho)⟩]
       simpa using h
      ·cases h
     ·rename_i hc
      have Ly:=hS.sub b o v h
      by_cases hb:b=(φ id).1
      ·subst hb
       have ho:o < es.length * sz:=by
        rcases yd o (es.length * sz) with h | h
        ·exact h
        ·exact absurd ⟨rfl,h⟩ hc
       rw[xg.cell (arr:=⟨za arr.toList (es.length * sz) news⟩) ⟨et,fz,rF Np,fun o ho=>Lh o (by simpa[Qm] using ho)⟩];rw[xg.cell (arr:=arr) ⟨et,fz,q3,Lh⟩] at Ly;simp only[List.getElem?_toArray];rw[Lr _ _ _ _ ho];simpa using Ly
      ·rw[Vk (Iw hb)];exact Ly
    ·refine⟨o1,(fun h=>by cases h),fun _=> ?_⟩
     rw[Ye];refine⟨q1,fun o ho=> ?_,⟨za arr.toList (es.length * sz) news⟩,⟨et,fz,rF Np,fun o ho=>Lh o (by simpa[Qm] using ho)⟩,by simpa[Qm] using q4,?_⟩
     ·have:es.length * sz<=o:=by rw[Nat.add_mul] at ho;omega
      exact (if_pos ⟨rfl,this⟩).trans (qa (by omega))
     ·show _<=(za arr.toList (es.length * sz) news).length
      rw[Qm,yI];exact Rt _ xr
   ·refine⟨aN _,(fun h=>by cases h),fun _=> ?_,fun sj n' nl2 h=> ?_⟩
    ·have:=Na.lit (R:=fun b o=>if b=(φ id).1/\es.length * sz<=o then (if o < (es.length+ys.length) * sz then (za arr.toList (es.length * sz) news)[o]? else none) else R b o) sz (es++ys) (φ id).1 0 (φ id).2 (by simpa using xr)
      (by intro x hx;rcases Bd.1 hx with h | h;exact r2 x h;exact VM x h) (by
       rw[nY];refine Cd.append (r3.mono hsub) ?_
       rw[IH r2,De];refine Cd.Ct (hl.mono hsub) Fg.one fun i v hi=> ?_
       have By:=getElem?_lt hi;rw[Fg.num] at By;exact (if_pos ⟨rfl,Nat.le_add_right _ _⟩).trans ((if_pos (by rw[Nat.add_mul];omega)).trans (x8 _ _ _ _ _ hi zu)))
     simpa using this
    ·rw[Of hlt] at h
     injection h with h;injection h with h1 h2 h3
     subst h1 h2 h3;exact⟨by simp,fun _=>⟨rfl,rfl,fun _=>by rw[Ye]⟩⟩
  ·refine grow _ _ olds hv (fun d=> ?_) s1 r2 s2 (by omega)
   show (loadCells _ _).run P _=_
   refine pJ (w:=wd w d) (fun j v hj=> ?_) Km;exact hS.sub _ _ _ (s3 j v hj)
end tok
end Go.AM
namespace Go.AM
open Go.RowKit
section own
variable {P:Program}{fo:Nat->FuncId}{B0:qd}{w:World}{R:Rd}{φ:Pl}{H:List fa}
theorem Raq(hS:Lb fo B0 w R φ H){x:AV}{vx:Value}(hx:Yb fo (K R φ H) x vx){sz m:Nat}{cs:List AV}(h:yk H sz x=some (m,cs)):
 ∃ news,Qb fo (K R φ H) cs news/\Src P w vx sz m news:=by
 have gen:∀ {x:AV},Yb fo (K R φ H) x vx->((Bg sz x).map fun ys=>(ys.length,(flat ys).map AV.pv))=some (m,cs)->∃ news,Qb fo (K R φ H) cs news/\Src P w vx sz m news:=by intro x hx h;simp only[dc,Jb] at h;obtain⟨ys,hy,rfl,rfl⟩:=h;obtain⟨news,h1,h2,_⟩:=iV (P:=P) hS hx hy;exact⟨news,Qb.RB h1,h2⟩
 cases hx with
 |atom x vx hx=>
  cases x with
  |own id len=>
   simp only[yk] at h
   split at h
   ·rename_i s ag c fl nl hc
    split at h
    ·rename_i he
     obtain⟨rfl,he⟩:=he;simp only[xb,Jb] at h;obtain⟨rfl,rfl⟩:=h;obtain⟨h0,h1,h2,pn,h3⟩:=hS.obj id _ hc
     obtain⟨_,hk⟩:=hx.2.2 _ _ _ _ _ hc
     obtain⟨k1,k2⟩:=hk (by omega);cases nl with
     |true=>
      have:=h2 rfl;subst this;simp only[Ch] at he;have Mg:len=0:=by
       rcases Wz.1 he with h | h
       ·exact h
       ·omega
      subst Mg;rw[k1 rfl];exact⟨[],.nil,Src.nil _⟩
     |false=>
      obtain⟨b,o,cap,q1,q2,q3⟩:=(k2 rfl).resolve_left (by rintro⟨rfl,Va,_⟩;exact Va (Ze (by omega)))
      obtain⟨rfl,rfl,rfl⟩:=q2 he;obtain⟨p1,p2,arr,p3,p4,p5,p6⟩:=h3 rfl;subst q1;refine⟨_,p6,Src.slice (fun j v hj=> ?_) (by rw[p6.length];omega) (Pu p6 pn)⟩;rw[De,p3.cell];rw[wm] at hj
      split at hj
      ·simpa using hj
      ·cases hj
    ·cases h
   ·cases h
  |_=>exact gen (.atom _ _ hx) (by simpa[yk] using h)
 |Ec ix cs vs h1=>exact gen (.Ec _ _ _ h1) (by simpa[yk] using h)
 |agg cs vs h1=>exact gen (.agg _ _ h1) (by simpa[yk] using h)
 |Ba cs vs h1=>exact gen (.Ba _ _ h1) (by simpa[yk] using h)
 |undef v=>exact gen (.undef _) (by simpa[yk] using h)
theorem K.j8{R':Rd}{id sz:Nat}{ag ag':Bool}{c cs:List AV}{fl:Nat}{nl nl':Bool}{p:Nat×Nat}(hsub:Sub R R')(h0:0 < sz)(hc:H[id]? =some (.seq sz ag c fl nl))(Wc:nl=true->c=[])
 (hp:(nl'=nl/\p=φ id)\/(cs≠[]/\nl'=false/\(nl=false->∀ k ps,bd (c.take k)=some ps->Cd R' ps (φ id).1 0))) (Kg:cs=[]->nl'=nl/\p=φ id) (a:AV) (v:Value) (h:K R φ H a v):
 K R' (Zc φ id p) (H.set id (.seq sz ag' (c++cs) fl nl')) a v:=by
 have Ma:=getElem?_lt hc;have h:=K.sub hsub a v h
 have Wd:∀ {i:Nat}{x:fa},(H.set id (.seq sz ag' (c++cs) fl nl'))[i]? =some x->(i≠id/\H[i]? =some x)\/(i=id/\x= .seq sz ag' (c++cs) fl nl'):=by
  intro i x hx
  by_cases h:i=id
  ·subst h;rw[Of Ma] at hx;injection hx with hx;exact .inr ⟨rfl,hx.symm⟩
  ·rw[ze (tf h)] at hx;exact .inl ⟨h,hx⟩
 cases a with
 |pv p=>exact h
 |ptr i off=>
  refine⟨by simpa using h.1,h.2.1,fun c1 h1=> ?_⟩;rcases Wd h1 with⟨Va,h2⟩ | ⟨rfl,h2⟩
  ·rw[Nf _ _ Va];exact h.2.2 _ h2
  ·cases h2
 |Sb i n off=>
  refine⟨by simpa using h.1,h.2.1,fun uz PK c1 tM Pg h1=> ?_⟩;rcases Wd h1 with⟨Va,h2⟩ | ⟨rfl,h2⟩
  ·rw[Nf _ _ Va];exact h.2.2 _ _ _ _ _ h2
  ·injection h2 with e1 e2 e3 e4 e5
   subst e1 e2 e3 e4 e5;obtain⟨k0,k⟩:=h.2.2 _ _ _ _ _ hc
   refine⟨by simp;omega,fun hf=> ?_⟩;obtain⟨k1,k2⟩:=k hf
   by_cases vu:cs=[]
   ·obtain⟨rfl,rfl⟩:=Kg vu
    subst vu;rw[Ye];simpa using ⟨k1,k2⟩
   ·have hlen:0 < cs.length:=Vn.2 vu
    refine⟨fun e=>by simp at e;omega,fun ps hps xo=> ?_⟩;have htake:(c++cs).take n=c.take n:=by rw[IK,show n - c.length=0 from by omega];simp
    rw[htake] at hps;rcases hp with⟨_,rfl⟩ | ⟨_,_,hold⟩
    ·rw[Ye];exact k2 ps hps xo
    ·have faj:nl=false:=by
      cases nl with
      |false=>rfl
      |true=>have:=Wc rfl;subst this;simp at k0;omega
     rcases k2 ps hps xo with rfl | hr
     ·exact .inr ⟨_,0,by rw[De],hold faj _ ps hps⟩
     ·exact .inr hr
 |uq i nl sz es=>
  refine⟨by simpa using h.1,h.2.1,h.2.2.1,fun sj n nl' h1=> ?_⟩;rcases Wd h1 with⟨Va,h2⟩ | ⟨rfl,h2⟩
  ·rw[Nf _ _ Va];exact h.2.2.2 _ _ _ h2
  ·cases h2
 |own i len=>
  refine⟨by simpa using h.1,h.2.1,fun uz PK c1 tM Pg h1=> ?_⟩;rcases Wd h1 with⟨Va,h2⟩ | ⟨rfl,h2⟩
  ·rw[Nf _ _ Va];exact h.2.2 _ _ _ _ _ h2
  ·injection h2 with e1 e2 e3 e4 e5
   subst e1 e2 e3 e4 e5;obtain⟨k0,k⟩:=h.2.2 _ _ _ _ _ hc
   refine⟨by simp;omega,fun hf=> ?_⟩;obtain⟨k1,k2⟩:=k hf
   by_cases vu:cs=[]
   ·obtain⟨rfl,rfl⟩:=Kg vu
    subst vu;rw[Ye];simpa using ⟨k1,k2⟩
   ·have hlen:0 < cs.length:=Vn.2 vu
    have htake:(c++cs).take (len * uz)=c.take (len * uz):=by rw[IK,show len * uz - c.length=0 from by omega];simp
    cases nl with
    |true=>
     have xS:=Wc rfl;subst xS;simp only[Ch] at k0;have Mg:len=0:=by
      rcases Wz.1 (Nat.le_zero.1 k0) with h | h
      ·exact h
      ·omega
     exact⟨fun _=>k1 rfl,fun _=> .inl ⟨Mg,by simpa using vu,k1 rfl⟩⟩
    |false=>
     have eaj:Pg=false:=by rcases hp with⟨e,_⟩ | ⟨_,e,_⟩ <;> exact e
     subst eaj;refine⟨(fun h=>by cases h),fun _=> ?_⟩;rcases k2 rfl with⟨q1,q2,q3⟩ | ⟨b,o,cap,q1,q2,q3⟩
     ·exact .inl ⟨q1,by simp[q2],q3⟩
     ·refine .inr ⟨b,o,cap,q1,fun e=>by simp at e;omega,fun ps hps=> ?_⟩
      rw[htake] at hps;rcases hp with⟨_,rfl⟩ | ⟨_,_,hold⟩
      ·rw[Ye];exact q3 ps hps
      ·rcases q3 ps hps with⟨rfl,rfl⟩ | hr
       ·exact .inr (hold rfl _ ps hps)
       ·exact .inr hr
 |mp i=>
  refine⟨by simpa using h.1,h.2.1,fun es h1=> ?_⟩;rcases Wd h1 with⟨Va,h2⟩ | ⟨rfl,h2⟩
  ·rw[Nf _ _ Va];exact h.2.2 _ h2
  ·cases h2
 |Ec ix cs=>exact h.elim
 |agg cs=>exact h.elim
 |Ba cs=>exact h.elim
 |undef=>exact h.elim
theorem Aaa(hS:Lb fo B0 w R φ H){t tx ty e:TypeId}{sz bytes:Nat}(hA:LJ P t tx e sz bytes){id len m fl:Nat}{ag' nl:Bool}{cells cs:List AV}{vs vx:Value}{x:AV}
 (hs:Yb fo (K R φ H) (.own id len) vs) (hx:Yb fo (K R φ H) x vx) (Ma:H[id]? =some (.seq sz ag' cells fl nl)) (hn:len * sz=cells.length) (hy:yk H sz x=some (m,cs)) (hcs1:cs.all AV.one=true)
 (hroomb:(len+m) * bytes<=140737488355328):
 Je fo B0 w R φ H ((Builtin.append_ #[t,tx] ty #[vs,vx]).run P w) (.own id (len+m)) (H.set id (.seq sz ag' (cells++cs) fl (nl&&(m==0)))):=by
 obtain⟨news,hl,Fg⟩:=Raq (P:=P) hS hx hy;obtain⟨dx,hux,hdx⟩:=hA.hx
 have Bn:K R φ H (.own id len) vs:=by cases hs with | atom _ _ h=>exact h
 obtain⟨hlt,k1,k2⟩:=Bn;obtain⟨_,k3⟩:=k2 _ _ _ _ _ Ma;obtain⟨o1,o2,o3,o4,o5⟩:=hS.obj id _ Ma
 obtain⟨k4,k5⟩:=k3 (by omega);have Si:=hS.low
 have uB:cs.length=m * sz:=by rw[<- hl.length,Fg.num]
 have Rh:(cells++cs).all AV.one=true:=by simp only[List.all_append,fb];exact⟨o4,hcs1⟩
 have aN:∀ o,id < (H.set id o).length:=fun o=>by simpa using hlt
 have hm0:cs=[]->m=0:=fun h=>by
  subst h;rcases Wz.1 uB.symm with h | h
  ·exact h
  ·omega
 have nB:∀ {R':Rd}{φ':Pl}{nl':Bool}{v':Value},(nl'=true->v'= .slice none 0 0)->(nl'=false->v'= .slice (some ⟨(φ' id).1,0,none⟩) (len+m) (φ' id).2)->v'.oneCell'=true->
  K R' φ' (H.set id (.seq sz ag' (cells++cs) fl nl')) (.own id (len+m)) v':=by
  intro R' φ' nl' v' hv1 hv2 Oy;refine⟨aN _,Oy,fun uz PK c1 tM Pg h=> ?_⟩;rw[Of hlt] at h;injection h with h;injection h with h1 h2 h3 h4 h5
  subst h1 h2 h3 h4 h5;refine⟨by simp[uB,Nat.add_mul];omega,fun _=>⟨hv1,fun e=> .inr ⟨_,_,_,hv2 e,fun _=>⟨rfl,rfl,rfl⟩,fun ps _=> .inl ⟨rfl,rfl⟩⟩⟩⟩
 have grow:∀ (base:Option Addr)(cap:Nat)(olds:List Value),vs= .slice base len cap->(∀ d,(Builtin.firstCells sz len (.slice base len cap)).run P (wd w d)= .ok ⟨olds⟩ (wd w d))->
  Qb fo (K R φ H) cells olds->(nl=false->∀ i v,olds[i]? =some v->w.cell? ⟨(φ id).1,i,none⟩=some v)->cap < len+m->(nl&&(m==0))=false->
  Je fo B0 w R φ H ((Builtin.append_ #[t,tx] ty #[vs,vx]).run P w) (.own id (len+m)) (H.set id (.seq sz ag' (cells++cs) fl (nl&&(m==0)))):=by
  intro base cap olds hv Zv sg hoc Sj Va;subst hv;rw[Va];obtain⟨C,rest,w',jd,hC,JE,hheap,hos,htape,Gi⟩:=run_append_grow (ty:=ty) hA.hu hux hdx hA.bq hA.RM hA.pos hA.hzero Fg Zv Sj hroomb
  have Taj:w.heap.size < w'.heap.size:=by rw[hheap];simp
  have hold':∀ b,b < w.heap.size->w'.heap[b]? =w.heap[b]? :=fun b hb=>by rw[hheap];exact Pp hb
  have hblk:xg w' w.heap.size ⟨olds++news++rest⟩:=⟨e,(0,0),by rw[hheap];simp,fun o _ h=>by omega⟩
  have cN:=sg.length
  have hsub:Sub R (fun b o=>if nl=false/\b=(φ id).1 then w.cell? ⟨b,o,none⟩ else R b o):=by
   intro b o v h;dsimp only
   split
   ·exact hS.sub b o v h
   ·exact h
  have CZ:cs≠[]:=by
   intro h;have hm:=hm0 h;subst hm;cases nl with
   |true=>simp at Va
   |false=>
    rcases k5 rfl with⟨q1,q2,q3⟩ | ⟨b,o,jac,q1,q2,q3⟩
    ·subst q1
     exact q2 (Ze (by omega))
    ·injection q1 with H6 fC jm
     obtain⟨_,_,q4⟩:=q2 hn;subst jm q4;obtain⟨_,_,arr,_,a4,a5,_⟩:=o5 rfl;rw[a4,<-hn] at a5;have:=iG a5 o1;omega
  have hk:=fun a v h=>K.j8 (R:=R) (φ:=φ) (R':=fun b o=>if nl=false/\b=(φ id).1 then w.cell? ⟨b,o,none⟩ else R b o) (ag':=ag') (cs:=cs) (nl':=false) (p:=(w.heap.size,C)) hsub o1 Ma o3
   (.inr ⟨CZ,rfl,fun Wc k ps hps=>by
    have h1:=sg.take k
    refine Cd.Ct ((Tt hps h1).mono hsub) (Pu h1 ?_) fun i v hi=> ?_
    ·rw[Df] at o4 ⊢
     exact fun x hx=>o4 x (Ot hx)
    ·refine (if_pos ⟨Wc,rfl⟩).trans ?_
     rw[De];refine hoc Wc i v ?_;rw[wm] at hi
     split at hi
     ·exact hi
     ·cases hi⟩) (fun h=>absurd h CZ) a v h
  refine⟨_,w',_,Zc φ id (w.heap.size,C),jd,?_,.atom _ _ (nB (fun h=>by cases h) (fun _=>by rw[Ye]) rfl),hk,.Yy ⟨hos,htape,Gi,by omega,fun k hk=>by rw[hheap];exact Pp hk⟩ Si hS.slt⟩;refine hS.Zc Ma (by omega) (fun b hb _=>hold' b hb) (fun b o hb caj=>qa (fun h=>caj h.1 h.2)) (fun b o v h=> ?_) hk (fun _=> .inr (gb _)) ?_
  ·split at h
   ·rw[Vk (hold' b (dp h))];exact h
   ·have:=hS.sub b o v h
    rw[Vk (hold' b (dp this))];exact this
  ·refine⟨o1,by simp;omega,(fun h=>by cases h),Rh,fun _=> ?_⟩
   rw[Ye];refine⟨Si,fun o=> ?_,⟨olds++news++rest⟩,hblk,?_,?_,?_⟩
   ·refine (qa ?_).trans (hS.MN (gb _) o)
    rintro⟨Wc,he⟩;obtain⟨_,_,arr,a3,_⟩:=o5 Wc;have:=a3.lt
    omega
   ·show (olds++news++rest).length=C * sz
    simp only[Pc,cN,<-hn,Fg.num,JE,<-Nat.add_mul]
    congr 1;omega
   ·show _<=(olds++news++rest).length
    simp only[Pc,cN,Fg.num,uB];omega
   ·have:(olds++news++rest).take (cells++cs).length=olds++news:=by
     rw[gG (by simp[cN,Fg.num,uB]),Ih (by simp[cN,Fg.num,uB])]
    simp only[this];exact (sg.append hl).mono hk
 cases nl with
 |true=>
  have xS:=o3 rfl;subst xS;have hv:=k4 rfl;have Mg:len=0:=by
   rcases Wz.1 hn with h | h
   ·exact h
   ·omega
  subst Mg
  by_cases hm:m=0
  ·subst hm
   have rI:news=[]:=Ze (by rw[Fg.num];simp);have vu:cs=[]:=Ze (by omega);subst rI vu;subst hv;have jd:=run_append_nil (ty:=ty) hA.hu hux hdx hA.bq Fg
   have Cj:H.set id (.seq sz ag' ([]++[]) fl (true&&(0==0)))=H:=by
    apply Nl;intro i
    by_cases h:i=id
    ·subst h;rw[Of hlt];exact Ma.symm
    ·rw[ze (tf h)]
   rw[Cj];exact Je.same _ hS jd hs
  ·have dT:(m==0)=false:=by simpa using hm
   exact grow none 0 [] hv (fun d=>by simp[Builtin.firstCells]) .nil (fun h=>by cases h) (by omega) (by simp[dT])
 |false=>
  obtain⟨q1,q2,arr,⟨et,fz,q3,Lh⟩,q4,q5,q6⟩:=o5 rfl;rcases k5 rfl with⟨r1,r2,r3⟩ | ⟨b,o,cap,r1,r2,r3⟩
  ·subst r1
   exact absurd (Ze (by omega)) r2
  obtain⟨rfl,rfl,rfl⟩:=r2 hn;have yI:arr.toList.length=(φ id).2 * sz:=by simpa using q4
  by_cases xr:len+m<=(φ id).2
  ·subst r1
   have Np:(φ id).1 < w.heap.size:=xg.lt ⟨et,fz,q3,Lh⟩
   have jd:=run_append_room (ty:=ty) (n0:=len) hA.hu hux hdx hA.bq Fg (b:=(φ id).1) (arr:=arr.toList) (et:=et) (fz:=fz) q3 (by simpa using Lh) yI xr
   have zu:len * sz+news.length<=arr.toList.length:=by rw[Fg.num,<-Nat.add_mul,yI];exact Rt _ xr
   have hk:=fun a v h=>K.j8 (R:=R) (φ:=φ) (ag':=ag') (cs:=cs) (nl':=false) (p:=φ id) (Sub.refl R) o1 Ma o3 (.inl ⟨rfl,rfl⟩) (fun _=>⟨rfl,rfl⟩) a v h
   refine⟨_,_,R,Zc φ id (φ id),jd,?_,.atom _ _ (nB (fun h=>by cases h) (fun _=>by rw[Ye]) rfl),hk,cO q1 q3 hS.slt (hS.free id ⟨_,Ma,rfl⟩)⟩;refine hS.Zc (w':=Zi w (φ id).1 (za arr.toList (len * sz) news) et fz) Ma (by simp[Zi]) (fun b hb Va=>Iw (Va rfl)) (fun _ _ _ _=>rfl) (fun b o v hv=> ?_) hk (fun _=> .inl ⟨rfl,rfl⟩) ?_
   ·rw[Vk (Iw (fun e=>by subst e;rw[q2] at hv;cases hv))];exact hS.sub b o v hv
   ·refine⟨o1,by simp;omega,(fun h=>by cases h),Rh,fun _=> ?_⟩
    rw[Ye];refine⟨q1,q2,⟨za arr.toList (len * sz) news⟩,⟨et,fz,rF Np,fun o ho=>Lh o (by simpa[Qm] using ho)⟩,by simpa[Qm] using q4,?_,?_⟩
    ·show _<=(za arr.toList (len * sz) news).length
     rw[Qm];simp only[Pc,uB,<-hn];rw[Fg.num] at zu;exact zu
    ·have tai:=zu
     rw[Fg.num] at tai;have h1:(cells++cs).length=(len+m) * sz:=by simp[uB,<-hn,Nat.add_mul]
     have:(za arr.toList (len * sz) news).take (cells++cs).length=arr.toList.take cells.length++news:=by
      apply Nl;intro i;rw[wm];have tZ:(arr.toList.take cells.length).length=len * sz:=by rw[ij,<-hn];omega
      split
      ·rename_i hi
       rw[h1] at hi
       by_cases hi2:i < len * sz
       ·rw[Lr _ _ _ _ hi2,Kc (by omega),wm,if_pos (by omega)]
       ·have nZ:i - len * sz < news.length:=by rw[Fg.num];rw[Nat.add_mul] at hi;omega
        have:=x8 news arr.toList (len * sz) (i - len * sz) news[i - len * sz] (Rb nZ) zu
        rw[show len * sz+(i - len * sz)=i from by omega] at this;rw[this,Tg (by omega),tZ,Rb nZ]
      ·rename_i hi
       rw[h1] at hi;rw[dh];rw[Pc,tZ,Fg.num,<-Nat.add_mul];omega
     simp only[this];exact (q6.append hl).mono hk
  ·refine grow _ _ (arr.toList.take cells.length) r1 (fun d=> ?_) q6 (fun _ i v hi=> ?_) (by omega) rfl
   ·show (loadCells _ _).run P _=_
    refine pJ (w:=wd w d) (fun j v hj=> ?_) (by rw[ij,hn];simp;omega);rw[De,vas,xg.cell (arr:=arr) ⟨et,fz,q3,Lh⟩];rw[wm] at hj
    split at hj
    ·simpa using hj
    ·cases hj
   ·rw[xg.cell (arr:=arr) ⟨et,fz,q3,Lh⟩]
    rw[wm] at hi
    split at hi
    ·simpa using hi
    ·cases hi
end own
end Go.AM
namespace Go.AM
open Go.RowKit
def EH:Value->PV->Bool
 | .int k n,.int k' n'=>decide (k=k')&&decide (n=n')
 | .bool a,.bool b=>a==b
 | .string s,.str t=>s.data.toList==t.data.toList
 | .pointer none,.Ic=>true
 | .slice none 0 0,.oa=>true
 | .map none,.Gk=>true
 | .nilFunc,.Fk=>true
 | .nilIface,.Eo=>true
 | .tuple vs,.Ba []=>vs.size==0
 |_,_=>false
theorem AR{R:Rd}{v:Value}{p:PV}(h:EH v p=true):Na R p v:=by
 unfold EH at h
 split at h
 ·simp only[fb,decide_eq_true_eq] at h
  obtain⟨rfl,rfl⟩:=h;exact .int _ _
 ·simp at h;subst h;exact .bool _
 ·rename_i s t
  have:s=t:=by cases s;cases t;simp at h;subst h;rfl
  subst this;exact .str _
 ·exact .Ic
 ·exact .oa
 ·exact .Gk
 ·exact .Fk
 ·exact .Eo
 ·rename_i vs
  have:vs= #[]:=by simpa using h
  subst this;exact .Ba [] [] .nil
 ·cases h
def PA:List Value->List PV->Bool
 | [],[]=>true
 |v::vs,p::ps=>EH v p&&Ru p&&PA vs ps
 |_,_=>false
theorem FH{R:Rd}:∀ {vs:List Value}{ps:List PV},PA vs ps=true->Cc R ps vs/\(ps.map AV.pv).all AV.one=true
 | [],[],_=>⟨.nil,rfl⟩
 |v::vs,p::ps,h=>by
  simp only[PA,fb] at h;obtain⟨h1,h2⟩:=FH (R:=R) h.2
  exact⟨.cons _ _ _ _ (AR h.1.1) h1,by simp only[Pf,tm,h2,wz];exact h.1.2⟩
 | [],_::_,h=>by simp[PA] at h
 |_::_,[],h=>by simp[PA] at h
def Vw(P:Program)(t:TypeId)(zero:List PV):Bool:=
 match P.info? t with
 |some i=>match i.zero with
  |some z=>PA z.cells.toList zero
  |none=>false
 |none=>false
def Yc(fo:Nat->FuncId):Operand->AO->Bool
 | .tmp n,.t m=>n==m
 | .const v,.c p=>EH v p
 | .func f,.f ix=>fo ix==f
 |_,_=>false
section ops
variable {P:Program}{fo:Nat->FuncId}{B0:qd}{w:World}{R:Rd}{φ:Pl}{H:List fa}{e:Tr}{a:Act}
theorem ud(hE:ye fo (K R φ H) e a){x:Operand}{y:AO}(h:Yc fo x y=true):Yb fo (K R φ H) (y.ev e) (a.eval x):=by
 unfold Yc at h
 split at h
 ·simp at h;subst h;exact hE _
 ·exact .atom _ _ (AR h)
 ·simp at h;subst h;exact .Ec _ [] [] .nil
 ·cases h
def Gr(fo:Nat->FuncId):List Operand->List AO->Bool
 | [],[]=>true
 |x::xs,y::ys=>Yc fo x y&&Gr fo xs ys
 |_,_=>false
theorem Yx(hE:ye fo (K R φ H) e a):∀ {xs:List Operand}{ys:List AO},Gr fo xs ys=true->Qb fo (K R φ H) (ys.map (·.ev e)) (xs.map a.eval)
 | [],[],_=> .nil
 |x::xs,y::ys,h=>by simp only[Gr,fb] at h;exact .cons _ _ _ _ (ud hE h.1) (Yx hE h.2)
 | [],_::_,h=>by simp[Gr] at h
 |_::_,[],h=>by simp[Gr] at h
abbrev Ug(fo:Nat->FuncId)(B0:qd)(w:World)(R:Rd)(φ:Pl)(H:List fa)(P:Program)(s:Sem Value)(v:AV)(H':List fa):Prop:=Je fo B0 w R φ H (s.run P w) v H'
theorem xj{x:AV}{vx:Value}(hx:Yb fo (K R φ H) x vx){k:IntKind}{n:Int}(h:AM.asInt x=some (k,n)):vx= .int k n:=by
 cases x with
 |pv p=>
  cases p with
  |int k' n'=>
   simp[AM.asInt] at h;obtain⟨rfl,rfl⟩:=h;have:=hx.xd
   cases this;rfl
  |_=>simp[AM.asInt] at h
 |_=>simp[AM.asInt] at h
theorem CP{x:AV}{vx:Value}(hx:Yb fo (K R φ H) x vx){b:Bool}(h:AM.asBool x=some b):vx= .bool b:=by
 cases x with
 |pv p=>
  cases p with
  |bool b'=>
   simp[AM.asBool] at h;subst h;have:=hx.xd
   cases this;rfl
  |_=>simp[AM.asBool] at h
 |_=>simp[AM.asBool] at h
theorem BU(hS:Lb fo B0 w R φ H){x y:AV}{vx:Value}(hx:Yb fo (K R φ H) x vx){d:Nat}(h:place H d x=some y):∃ b o,vx= .pointer (some ⟨b,o,none⟩)/\Yb fo (K R φ H) y (.pointer (some ⟨b,o+d,none⟩)):=by
 cases hx with
 |atom x vx hx=>
  cases x with
  |pv p=>
   have hx:Na R p vx:=hx;cases p with
   |rp row off=>
    simp[place] at h;subst h;cases hx with
    |rp _ _ b o hr=>exact⟨b,o+off,rfl,.atom _ _ (by rw[Nat.add_assoc];exact Na.rp row (off+d) b o hr)⟩
   |_=>simp[place] at h
  |ptr id off=>
   simp only[place] at h
   split at h
   ·rename_i c hc
    injection h with h;subst h
    refine⟨_,_,hx.2.2 c hc,.atom _ _ ⟨hx.1,rfl,fun c' ri=>rfl⟩⟩
   ·cases h
  |Sb id n off=>
   simp only[place] at h
   split at h
   ·rename_i sz ag c fl nl hc
    obtain⟨k0,kk⟩:=hx.2.2 _ _ _ _ _ hc
    obtain⟨h0,h1,h2,pn,h3⟩:=hS.obj id _ hc
    have out:∀ {v:Value}{bb oo:Nat},v= .pointer (some ⟨bb,oo+d,none⟩)->((c.length=n->bb=(φ id).1/\oo=off)/\(∀ ps,bd (c.take n)=some ps->0 < n->(bb=(φ id).1/\oo=off)\/∃ o,oo=o+off/\Cd R ps bb o))->fl<=n->
     Yb fo (K R φ H) (.Sb id n (off+d)) v:=by
     intro v bb oo hv hq hfl;subst hv;refine .atom _ _ ⟨hx.1,rfl,fun sj ag' c' Qd nl' ri=> ?_⟩
     rw[hc] at ri;injection ri with ri;injection ri with e1 e2 e3 e4 e5
     subst e1 e2 e3 e4 e5;refine⟨k0,fun _=>⟨fun e=> ?_,fun ps hps xo=> ?_⟩⟩
     ·obtain⟨rfl,rfl⟩:=hq.1 e;rfl
     ·rcases hq.2 ps hps xo with⟨rfl,rfl⟩ | ⟨o,rfl,hr⟩
      ·exact .inl rfl
      ·exact .inr ⟨bb,o,by rw[Nat.add_assoc],hr⟩
    split at h
    ·rename_i hn
     injection h with h;subst h
     have hv:=(kk (by omega)).1 hn
     exact⟨_,_,hv,out rfl ⟨fun _=>⟨rfl,rfl⟩,fun _ _ _=> .inl ⟨rfl,rfl⟩⟩ (by omega)⟩
    ·split at h
     ·rename_i hn hf
      simp only[dc] at h;obtain⟨ps,hps,rfl⟩:=h;rcases (kk hf.1).2 ps hps hf.2 with hv | ⟨b,o,hv,hr⟩
      ·exact⟨_,_,hv,out rfl ⟨fun e=>absurd e hn,fun _ _ _=> .inl ⟨rfl,rfl⟩⟩ hf.1⟩
      ·refine⟨_,_,hv,out rfl ⟨fun e=>absurd e hn,fun qF kN _=> .inr ⟨o,rfl,?_⟩⟩ hf.1⟩
       rw[hps] at kN;injection kN with kN;subst kN;exact hr
     ·cases h
   ·cases h
  |_=>simp[place] at h
 |_=>simp[place] at h
theorem bao{x y:AV}(h:place H 0 x=some y):y=x:=by
 cases x with
 |pv p=>cases p <;> simp_all [place]
 |ptr id off=>simp only[place] at h;split at h <;> simp_all
 |Sb id n off=>
  simp only[place] at h
  split at h
  ·split at h
   ·simp_all
   ·split at h
    ·simp only[dc] at h;obtain⟨_,_,rfl⟩:=h;rfl
    ·cases h
  ·cases h
 |_=>simp[place] at h
theorem wae(hS:Lb fo B0 w R φ H){x y:AV}{vx:Value}(hx:Yb fo (K R φ H) x vx){s:TypeId}{f:Nat}{fs:Array Field}{fd:Field}{n:Nat}(hu:P.underlying s=some (.struct fs))(hf:fs[f]? =some fd)
 (hn:Sd P fd.type=some n) (xo:n≠0) (h:place H fd.offset x=some y):Ug fo B0 w R φ H P (Instr.fieldAt s vx f) y H:=by
 obtain⟨b,o,rfl,h2⟩:=BU hS hx h;refine Je.same _ hS ?_ h2
 simp[Instr.fieldAt,run_underlying hu,hf,Instr.sureAddr,fieldPlace,qj hn,xo,wv]
theorem Cak(hS:Lb fo B0 w R φ H){x y:AV}{vx:Value}(hx:Yb fo (K R φ H) x vx){t el:TypeId}{n sz:Nat}{k:IntKind}{i:Int}(hu:P.underlying t=some (.array n el))(ib:Sd P el=some sz)(hi:Ta i n)
 (h:place H (i.toNat * sz) x=some y):Ug fo B0 w R φ H P (Instr.indexAt t vx (.int k i)) y H:=by
 obtain⟨b,o,rfl,h2⟩:=BU hS hx h;refine Je.same _ hS ?_ h2
 obtain⟨i1,i2⟩:=hi;simp[Instr.indexAt,asIntOf,run_underlying hu,Instr.sureAddr,i1,i2,qj ib,wv]
theorem Eak(hS:Lb fo B0 w R φ H){x y:AV}{vx:Value}(hx:Yb fo (K R φ H) x vx){t el:TypeId}{sz:Nat}{k:IntKind}{i:Int}(hu:P.underlying t=some (.slice el))(ib:Sd P el=some sz)
 (h:Ua H sz x i=some y):Ug fo B0 w R φ H P (Instr.indexAt t vx (.int k i)) y H:=by
 have run:∀ (b o len cap:Nat),0<=i->i < (len:Int)->(Instr.indexAt t (.slice (some ⟨b,o,none⟩) len cap) (.int k i)).run P w= .ok (.pointer (some ⟨b,o+i.toNat * sz,none⟩)) w:=by intro b o len cap i1 i2;simp[Instr.indexAt,asIntOf,run_underlying hu,i1,i2,qj ib,wv]
 have LI:∀ {es:List PV},Na R (.lit sz es) vx->Ta i es.length->es[i.toNat]?.map (fun e=>AV.pv (.rp e.cells 0))=some y->Ug fo B0 w R φ H P (Instr.indexAt t vx (.int k i)) y H:=by
  intro es hp hi hy;cases hp with
  |lit _ _ b o cap h1 h2 h3=>
   simp only[dc] at hy;obtain⟨el,he,rfl⟩:=hy;refine Je.same _ hS (run b o _ _ hi.1 hi.2) (.atom _ _ ?_)
   show Na _ _ _;have h4:=(h3.drop (i.toNat * sz)).take sz
   rw[pY h2 he] at h4;exact Na.rp _ 0 b _ h4
  |Br _ a=>simp at hy
 cases hx with
 |atom x vx hx=>
  cases x with
  |pv p=>
   cases p with
   |lit s es=>
    simp only[Ua] at h
    split at h
    ·rename_i hc;obtain⟨rfl,hi⟩:=hc;exact LI hx hi h
    ·cases h
   |_=>simp[Ua] at h
  |uq id nl s es=>
   simp only[Ua] at h
   split at h
   ·rename_i hc
    obtain⟨rfl,hi⟩:=hc;cases nl with
    |true=>
     obtain⟨_,rfl⟩:=hx.2.1 rfl
     simp[Ta] at hi;omega
    |false=>exact LI (hx.2.2.1 rfl) hi h
   ·cases h
  |own id len=>
   simp only[Ua] at h
   split at h
   ·rename_i s ag c fl nl hc
    split at h
    ·rename_i hi
     obtain⟨rfl,hi,u0,hw2⟩:=hi;obtain⟨k0,k⟩:=hx.2.2 _ _ _ _ _ hc
     obtain⟨h0,h1,h2,pn,h3⟩:=hS.obj id _ hc
     have hlen:0 < len:=by have:=hi.1;have:=hi.2;omega
     have Wc:nl=false:=by
      cases nl with
      |false=>rfl
      |true=>
       have:=h2 rfl;subst this;simp only[Ch] at k0;have:0 < len * s:=Nat.mul_pos hlen h0
       omega
     subst Wc;injection h with h;subst h
     obtain⟨k1,k2⟩:=k u0;rcases k2 rfl with⟨q1,_,_⟩ | ⟨b,o,cap,q1,q2,q3⟩
     ·omega
     ·subst q1
      refine Je.same _ hS (run _ _ _ _ hi.1 hi.2) (.atom _ _ ⟨hx.1,rfl,fun sj ag' c' Qd nl' ri=> ?_⟩)
      rw[hc] at ri;injection ri with ri;injection ri with e1 e2 e3 e4 e5
      subst e1 e2 e3 e4 e5;refine⟨k0,fun _=>⟨fun e=> ?_,fun ps hps _=> ?_⟩⟩
      ·obtain⟨rfl,rfl,_⟩:=q2 e.symm
       rw[De]
      ·rcases q3 ps hps with⟨rfl,rfl⟩ | hr
       ·rw[De];exact .inl rfl
       ·exact .inr ⟨b,o,rfl,hr⟩
    ·cases h
   ·cases h
  |_=>simp[Ua] at h
 |_=>simp[Ua] at h
end ops
end Go.AM
namespace Go.AM
open Go.RowKit
section ops
variable {P:Program}{fo:Nat->FuncId}{B0:qd}{w:World}{R:Rd}{φ:Pl}{H:List fa}{e:Tr}{a:Act}
theorem paa(hS:Lb fo B0 w R φ H){t:TypeId}{zero:List PV}(hz:Vw P t zero=true):Ug fo B0 w R φ H P (Instr.alloc t true (.tuple #[])) (.ptr H.length 0) (H++[.box (zero.map .pv)]):=by
 unfold Vw at hz;cases hi:P.info? t with
 |none=>simp[hi] at hz
 |some i=>
  simp only[hi] at hz;cases Vj:i.zero with
  |none=>simp[Vj] at hz
  |some z=>simp only[Vj] at hz;obtain⟨h1,h2⟩:=FH (R:=R) hz;have:=F4 (fo:=fo) (B0:=B0) hS (Qb.RB h1) h2 t;simpa[Ug,Instr.alloc,zeroValue,run_typeInfo w hi,Vj,newVar,newRow] using this
theorem wab(hS:Lb fo B0 w R φ H){t:TypeId}{x:AV}{vx:Value}(hx:Yb fo (K R φ H) x vx)(h1:x.cells.all AV.one=true):Ug fo B0 w R φ H P (Instr.box t vx) (.ptr H.length 0) (H++[.box x.cells]):=by
 have:=F4 hS (DL hx h1) h1 t;simpa[Ug,Instr.box,newVar,newRow] using this
theorem nar{cs:List AV}{ps:List PV}{vs:List Value}(h:Ha (qb [] 0) cs=some ps)(hc:Qb fo (K R φ H) cs vs):Cc R ps vs:=by
 induction cs generalizing ps vs with
 |nil=>simp[Ha] at h;subst h;cases hc;exact .nil
 |cons c cs ih=>
  simp only[Ha,Hd,xb] at h;obtain⟨b,h1,bs,h2,rfl⟩:=h;cases hc with
  |cons _ _ v vs hv FI=>
   refine .cons _ _ _ _ ?_ (ih h2 FI)
   cases c with
   |pv p=>simp[qb] at h1;subst h1;exact hv.xd
   |uq id nl sz es=>
    have hk:K R φ H (.uq id nl sz es) v:=by cases hv with | atom _ _ h=>exact h
    simp[qb] at h1;cases nl with
    |true=>simp at h1;subst h1;rw[(hk.2.1 rfl).1];exact .oa
    |false=>simp at h1;subst h1;exact hk.2.2.1 rfl
   |_=>simp[qb] at h1
theorem vab(hS:Lb fo B0 w R φ H){t:TypeId}{x:AV}{vx:Value}(hx:Yb fo (K R φ H) x vx)(h1:x.cells.all AV.one=true){ps:List PV}(hps:Ha (qb [] 0) x.cells=some ps):Ug fo B0 w R φ H P (Instr.box t vx) (.pv (.rp ps 0)) H:=by
 have hc:=DL hx h1;have mf:=Pu hc h1;have hl:=nar hps hc;have hsub:=pM hS (fun o=>vx.cells.toList[o]?);have hk:=fun a v=>K.sub (φ:=φ) (H:=H) hsub a v
 have hold:∀ b,b < w.heap.size->({w with heap:=w.heap.push (.cells ⟨vx.cells.toList⟩ t)}:World).heap[b]? =w.heap[b]? :=fun b hb=>Pp hb
 have hblk:xg {w with heap:=w.heap.push (.cells ⟨vx.cells.toList⟩ t)} w.heap.size ⟨vx.cells.toList⟩:=⟨t,(0,0),by simp,fun o _ h=>by omega⟩
 have jd:(Instr.box t vx).run P w= .ok (.pointer (some ⟨w.heap.size,0,none⟩)) {w with heap:=w.heap.push (.cells ⟨vx.cells.toList⟩ t)}:=by simp[Instr.box,newVar,newRow]
 refine⟨_,_,qi R w.heap.size (fun o=>vx.cells.toList[o]?),φ,jd,⟨Lj hS.low (by simp),fun b o v h=> ?_,fun id o ho=> ?_,hS.inj,fun b o hb=>by have:=hS.low;unfold qi;rw[qa (by omega)];exact hS.Wd b o hb,fun k hk=>Xn (hS.slt k hk) (by simp),hS.free⟩,.atom _ _ (show Na _ _ _ from ?_),hk,IQ hS.low hS.slt _⟩
 ·unfold qi at h
  split at h
  ·rename_i e;subst e;rw[hblk.cell];simpa using h
  ·have:=hS.sub b o v h
   rw[Vk (hold b (dp this))];exact this
 ·have hO:=hS.obj id o ho
  refine hO.qc (fun oI=>⟨hold _ (hO.lt oI),fun j hj=> ?_⟩) rfl hk
  have:=hO.lt oI
  unfold qi;rw[qa (by omega)];exact hj
 ·have:=Na.rp (R:=qi R w.heap.size (fun o=>vx.cells.toList[o]?)) ps 0 w.heap.size 0 (Cd.Ct (hl.mono hsub) mf fun i v hi=>by
   simp only[qi,De,if_true];exact hi)
  simpa using this
theorem wal(hS:Lb fo B0 w R φ H){t ty:TypeId}{x:AV}{vx:Value}{k n:Nat}(hx:Yb fo (K R φ H) x vx)(hu:(k=0/\∃ e,P.underlying t=some (.slice e))\/(k=1/\P.underlying t=some .string))(h:mb H k x=some n):
 Ug fo B0 w R φ H P (Builtin.len_ #[t] ty #[vx]) (fO n) H:=by
 rcases hu with⟨rfl,e,hu⟩ | ⟨rfl,hu⟩
 ·have sC:(∃ a c,vx= .slice a n c)->Ug fo B0 w R φ H P (Builtin.len_ #[t] ty #[vx]) (fO n) H:=by
   rintro⟨a,c,rfl⟩;refine Je.same (.int .i64 n) hS ?_ (.atom _ _ (show Na R _ _ from .int _ _))
   simp[Builtin.len_,run_underlying hu,goInt]
  cases hx with
  |atom x vx hx=>
   cases x with
   |pv p=>
    have hx:Na R p vx:=hx;cases p with
    |oa=>simp[mb] at h;subst h;cases hx <;> exact sC ⟨_,_,rfl⟩
    |lit s es=>simp[mb] at h;subst h;cases hx <;> exact sC ⟨_,_,rfl⟩
    |_=>simp[mb] at h
   |uq id nl s es=>
    simp[mb] at h;subst h;cases nl with
    |true=>obtain⟨rfl,rfl⟩:=hx.2.1 rfl;exact sC ⟨_,_,rfl⟩
    |false=>
     have:=hx.2.2.1 rfl
     cases this <;> exact sC ⟨_,_,rfl⟩
   |own id len=>
    simp only[mb] at h
    split at h
    ·rename_i sz ag c fl nl hc
     split at h
     ·rename_i hw
      injection h with h;subst h
      obtain⟨k0,k⟩:=hx.2.2 _ _ _ _ _ hc
      obtain⟨k1,k2⟩:=k hw.1
      obtain⟨h0,h1,h2,_⟩:=hS.obj id _ hc
      cases nl with
      |true=>
       have:=h2 rfl;subst this;have Mg:len=0:=by
        rcases Wz.1 (Nat.le_zero.1 k0) with h | h
        ·exact h
        ·omega
       subst Mg;exact sC ⟨_,_,k1 rfl⟩
      |false=>
       rcases k2 rfl with⟨q1,_,q3⟩ | ⟨b,o,cap,q1,_,_⟩
       ·subst q1;exact sC ⟨_,_,q3⟩
       ·exact sC ⟨_,_,q1⟩
     ·cases h
    ·cases h
   |_=>simp[mb] at h
  |_=>simp[mb] at h
 ·cases x with
  |pv p=>
   cases p with
   |str s=>
    simp[mb] at h;subst h;have:=hx.xd
    cases this;refine Je.same (.int .i64 s.size) hS ?_ (.atom _ _ (show Na R _ _ from .int _ _))
    simp[Builtin.len_,run_underlying hu,goInt]
   |_=>simp[mb] at h
  |_=>simp[mb] at h
theorem wO{len cap:Nat}{lo hi:Option Value}{l h:Int}(sg:(lo=none/\l=0)\/∃ k,lo=some (.int k l))(cw:(hi=none/\h=len)\/∃ k,hi=some (.int k h))(TE:Bool)(h0:0<=l)(h1:l<=h)(h2:h<=cap):
 (Instr.sliceBounds TE len cap lo hi none).run P w= .ok (l.toNat,h.toNat,cap) w:=by
 have hh:0<=h:=by omega
 have hb:l<=(h.toNat:Int):=by omega
 rcases sg with⟨rfl,rfl⟩ | ⟨k,rfl⟩ <;> rcases cw with⟨rfl,rfl⟩ | ⟨k',rfl⟩ <;>
  simp[Instr.sliceBounds,Instr.sliceBound,asIntOf,h0,hh,h2,hb] <;> (intro hlt;exfalso;omega)
theorem Gaq(hS:Lb fo B0 w R φ H){t:TypeId}{x y:AV}{vx:Value}{sz:Nat}(hx:Yb fo (K R φ H) x vx)(hu:(sz≠0/\∃ el,P.underlying t=some (.slice el)/\Sd P el=some sz)\/(sz=0/\P.underlying t=some .string))
 {lo hi:Option Value} {lo' hi':Option Int} (sg:(lo=none/\lo'=none)\/∃ k l,lo=some (.int k l)/\lo'=some l) (cw:(hi=none/\hi'=none)\/∃ k h,hi=some (.int k h)/\hi'=some h)
 (h:nh H sz x lo' hi'=some y):Ug fo B0 w R φ H P (Instr.sliceAt t vx lo hi none) y H:=by
 have ff:(lo=none/\lo'.getD 0=0)\/∃ k,lo=some (.int k (lo'.getD 0)):=by
  rcases sg with⟨rfl,rfl⟩ | ⟨k,l,rfl,rfl⟩
  ·exact .inl ⟨rfl,rfl⟩
  ·exact .inr ⟨k,rfl⟩
 have Vd:∀ n:Nat,(hi=none/\hi'.getD n=n)\/∃ k,hi=some (.int k (hi'.getD n)):=by
  intro n;rcases cw with⟨rfl,rfl⟩ | ⟨k,l,rfl,rfl⟩
  ·exact .inl ⟨rfl,rfl⟩
  ·exact .inr ⟨k,rfl⟩
 have LI:∀ {es:List PV},sz≠0->Na R (.lit sz es) vx->0<=lo'.getD 0->lo'.getD 0<=hi'.getD (es.length:Int)->hi'.getD (es.length:Int)<=(es.length:Int)->
  Ug fo B0 w R φ H P (Instr.sliceAt t vx lo hi none) (.pv (.lit sz ((es.take (hi'.getD (es.length:Int)).toNat).drop (lo'.getD 0).toNat))) H:=by
  intro es ib hp h1 h2 h3;obtain⟨_,el,ct,gf⟩:=hu.resolve_right (fun h=>ib h.1)
  cases hp with
  |lit _ _ b o cap c1 c2 c3=>
   have jd:=wO (P:=P) (w:=w) (cap:=cap) ff (Vd es.length) true h1 h2 (by omega);have hlen:((es.take (hi'.getD (es.length:Int)).toNat).drop (lo'.getD 0).toNat).length=(hi'.getD (es.length:Int)).toNat - (lo'.getD 0).toNat:=by simp;omega
   have hmem:∀ e∈(es.take (hi'.getD (es.length:Int)).toNat).drop (lo'.getD 0).toNat,e.cells.length=sz:=fun e he=>c2 e (Ot (No he))
   have Wai:∀ e∈es.take (hi'.getD (es.length:Int)).toNat,e.cells.length=sz:=fun e he=>c2 e (Ot he)
   by_cases hm:cap=(lo'.getD 0).toNat
   ·refine Je.same (.slice (some ⟨b,o,none⟩) ((hi'.getD (es.length:Int)).toNat - (lo'.getD 0).toNat) (cap - (lo'.getD 0).toNat)) hS ?_ (.atom _ _ ?_)
    ·simp[Instr.sliceAt,Instr.slice,run_underlying ct,jd,qj gf]
     intro Va;exact absurd hm Va
    ·have h0:(es.take (hi'.getD (es.length:Int)).toNat).drop (lo'.getD 0).toNat=[]:=Ze (by omega)
     show Na _ _ _;have:=Na.lit (R:=R) sz ((es.take (hi'.getD (es.length:Int)).toNat).drop (lo'.getD 0).toNat) b o (cap - (lo'.getD 0).toNat) (by omega) hmem (by rw[h0];exact .nil _ _)
     rw[hlen] at this;exact this
   ·refine Je.same (.slice (some ⟨b,o+(lo'.getD 0).toNat * sz,none⟩) ((hi'.getD (es.length:Int)).toNat - (lo'.getD 0).toNat) (cap - (lo'.getD 0).toNat)) hS ?_ (.atom _ _ ?_)
    ·simp[Instr.sliceAt,Instr.slice,run_underlying ct,jd,qj gf,hm,wv]
    ·show Na _ _ _
     have:=Na.lit (R:=R) sz ((es.take (hi'.getD (es.length:Int)).toNat).drop (lo'.getD 0).toNat) b (o+(lo'.getD 0).toNat * sz) (cap - (lo'.getD 0).toNat) (by omega) hmem (by rw[wM Wai,JH c2];exact (c3.take _).drop _)
     rw[hlen] at this;exact this
  |Br _ a=>
   have e1:hi'.getD (([]:List PV).length:Int)=0:=by simp only[Ch] at h2 h3 ⊢;omega
   have e2:lo'.getD 0=0:=by omega
   have jd:=wO (P:=P) (w:=w) (cap:=0) ff (Vd 0) true h1 h2 (by simpa using h3);have e3:hi'.getD ((0:Nat):Int)=0:=e1
   rw[e2,e3] at jd;refine Je.same (.slice (some a) 0 0) hS ?_ (.atom _ _ (by simp only[List.take_nil,List.drop_nil];exact (show Na R _ _ from .Br _ _)))
   simp[Instr.sliceAt,Instr.slice,run_underlying ct,jd,qj gf]
 have G4:sz≠0->vx= .slice none 0 0->lo'.getD 0=0->hi'.getD 0=0->Ug fo B0 w R φ H P (Instr.sliceAt t vx lo hi none) (.pv .oa) H:=by
  intro ib hv h1 h2;subst hv;obtain⟨_,el,ct,gf⟩:=hu.resolve_right (fun h=>ib h.1)
  have jd:=wO (P:=P) (w:=w) (len:=0) (cap:=0) ff (Vd 0) true (by omega) (by simp[h1,h2]) (by simp[h2]);rw[h1] at jd;have jE:hi'.getD ((0:Nat):Int)=0:=h2
  rw[jE] at jd;refine Je.same _ hS ?_ (.atom _ _ (show Na R _ _ from .oa))
  simp at jd;simp[Instr.sliceAt,Instr.slice,run_underlying ct,jd,qj gf]
 cases hx with
 |atom x vx hx=>
  cases x with
  |pv p=>
   have hx:Na R p vx:=hx;cases p with
   |oa=>
    simp only[nh] at h
    split at h
    ·rename_i hc
     injection h with h;subst h
     cases hx;exact G4 (by omega) rfl hc.2.1 hc.2.2
    ·cases h
   |lit s es=>
    simp only[nh] at h
    split at h
    ·rename_i hc
     obtain⟨c0,rfl,c1,c2,c3⟩:=hc;injection h with h;subst h
     exact LI (by omega) hx c1 c2 c3
    ·cases h
   |str s=>
    simp only[nh] at h
    split at h
    ·rename_i hc
     obtain⟨c0,c1,c2,c3⟩:=hc;injection h with h;subst h
     cases hx;have ct:=(hu.resolve_left (fun h=>h.1 c0)).2
     have jd:=wO (P:=P) (w:=w) (len:=s.size) (cap:=s.size) ff (Vd s.size) false c1 c2 c3;refine Je.same _ hS ?_ (.atom _ _ (show Na R _ _ from .str _))
     simp[Instr.sliceAt,Instr.slice,run_underlying ct,jd]
    ·cases h
   |_=>simp[nh] at h
  |uq id nl s es=>
   simp only[nh] at h
   split at h
   ·rename_i hc
    obtain⟨c0,rfl,c1,c2,c3⟩:=hc;injection h with h;subst h
    cases nl with
    |true=>
     obtain⟨rfl,rfl⟩:=hx.2.1 rfl
     simp at c2 c3;refine G4 (by omega) rfl ?_ ?_ <;> omega
    |false=>exact LI (by omega) (hx.2.2.1 rfl) c1 c2 c3
   ·cases h
  |_=>simp[nh] at h
 |_=>simp[nh] at h
end ops
end Go.AM
namespace Go.AM
open Go.RowKit
section ops
variable {P:Program}{fo:Nat->FuncId}{B0:qd}{w:World}{R:Rd}{φ:Pl}{H:List fa}{e:Tr}{a:Act}
theorem eab{op:BinOp}{x y:AV}{vx vy:Value}{p:PV}(hx:Yb fo (K R φ H) x vx)(hy:Yb fo (K R φ H) y vy)(h:Ix op x y=some p)(t:TypeId)(ox oy:Operand):
 ∃ v,(do eqGuard op t ox oy vx vy;binOp op t vx vy:Sem Value).run P w= .ok v w/\Na R p v:=by
 have ints:∀ {k:IntKind}{m n:Int},vx= .int k m->vy= .int k n->(op≠ .shl)->(op≠ .shr)->ll op k m n=some p->∃ v,(do eqGuard op t ox oy vx vy;binOp op t vx vy:Sem Value).run P w= .ok v w/\Na R p v:=by
  rintro k m n rfl rfl h1 h2 hb;cases op <;> simp only[ll] at hb <;> first
   |exact absurd rfl h1
   |exact absurd rfl h2
   | (cases hb;done)
   | (injection hb with hb;subst hb;exact⟨_,by simp[eqGuard,binOp,Op.intArith,Op.intBits,Op.intCmp];rfl,by constructor⟩)
   | (injection hb with hb;subst hb;exact⟨.int k _,rfl,.int _ _⟩)
   | (split at hb
      ·cases hb
      ·rename_i hn;injection hb with hb;subst hb;exact⟨_,by simp[eqGuard,binOp,Op.intDiv,hn];rfl,by constructor⟩)
 have E8:∀ {k k':IntKind}{m n:Int},vx= .int k m->vy= .int k' n->¬n < 0->(op= .shl/\p= .int k (k.wrap (m * 2 ^ (min n.toNat k.bits))))\/(op= .shr/\p= .int k (m.fdiv (2 ^ (min n.toNat k.bits))))->
  ∃ v,(do eqGuard op t ox oy vx vy;binOp op t vx vy:Sem Value).run P w= .ok v w/\Na R p v:=by
  rintro k k' m n rfl rfl hn hp;rcases hp with⟨rfl,rfl⟩ | ⟨rfl,rfl⟩ <;> exact⟨_,by simp[eqGuard,binOp,Op.shift,hn];rfl,by constructor⟩
 have strs:∀ {s u:ByteArray},vx= .string s->vy= .string u->nV op s u=some p->∃ v,(do eqGuard op t ox oy vx vy;binOp op t vx vy:Sem Value).run P w= .ok v w/\Na R p v:=by
  rintro s u rfl rfl hb;cases op <;> simp only[nV] at hb <;> first
   |cases hb;done
   | (injection hb with hb;subst hb;exact⟨_,by simp[eqGuard,binOp,Op.stringOp,ByteArray.toList_eq];rfl,by constructor⟩)
   | (injection hb with hb;subst hb;rw[<- ByteArray.toList_eq,<-ByteArray.toList_eq];exact⟨.bool _,rfl,.bool _⟩)
   | (split at hb
      ·rename_i hn
       injection hb with hb;subst hb
       have pI:¬(((s.size+u.size:Nat):Int) > IntKind.i64.max):=by omega
       exact⟨_,by simp only[eqGuard,binOp,Op.stringOp,qa pI];simp;rfl,by constructor⟩
      ·cases hb)
 unfold Ix at h
 split at h
 ·split at h
  ·cases h
  ·rename_i hn
   injection h with h
   refine E8 (xj hx rfl) (xj hy rfl) hn (.inl ⟨rfl,h.symm⟩)
 ·split at h
  ·cases h
  ·rename_i hn
   injection h with h
   refine E8 (xj hx rfl) (xj hy rfl) hn (.inr ⟨rfl,h.symm⟩)
 ·rename_i h1 h2
  split at h
  ·rename_i hk
   subst hk;exact ints (xj hx rfl) (xj hy rfl) (fun e=>h1 e) (fun e=>h2 e) h
  ·cases h
 ·have h1:=hx.xd
  have h2:=hy.xd
  cases h1;cases h2;exact strs rfl rfl h
 ·cases h
theorem gas{op:UnOp}{x:AV}{vx:Value}{p:PV}(hx:Yb fo (K R φ H) x vx)(h:tC op x=some p):∃ v,(Op.unary op vx).run P w= .ok v w/\Na R p v:=by
 unfold tC at h
 split at h
 ·injection h with h;subst h
  rw[xj hx rfl];exact⟨_,by simp[Op.unary,Op.intArith];rfl,by simpa using Na.int _ _⟩
 ·injection h with h;subst h
  rw[CP hx rfl];exact⟨_,by simp[Op.unary];rfl,by constructor⟩
 ·injection h with h;subst h
  rw[xj hx rfl];exact⟨_,by simp[Op.unary,Op.intBits];rfl,by constructor⟩
 ·cases h
theorem Tac{s d:TypeId}{ds:TypeDesc}{k k':IntKind}{n:Int}(hs:P.underlying s=some ds)(hd:P.underlying d=some (.int k)):(convert s d (.int k' n)).run P w= .ok (.int k (k.wrap n)) w:=by
 simp[convert,run_underlying hs,run_underlying hd,Conv.intToInt]
theorem xW{es:List PV}{l:List UInt8}{vs:List Value}(hb:bytesOf es=some l)(hl:Cc R es vs):∃ ns:List Int,vs=ns.map (Value.int .u8)/\l=ns.map fun n=>UInt8.ofNat n.toNat:=by
 induction es generalizing l vs with
 |nil=>simp[bytesOf] at hb;subst hb;cases hl;exact⟨[],rfl,rfl⟩
 |cons p es ih=>
  cases p with
  |int k n=>
   cases k with
   |u8=>
    simp only[bytesOf,dc] at hb;obtain⟨l',h1,rfl⟩:=hb;cases hl with
    |cons _ _ v vs h2 h3=>cases h2;obtain⟨ns,rfl,rfl⟩:=ih h1 h3;exact⟨n::ns,rfl,rfl⟩
   |_=>simp[bytesOf] at hb
  |_=>simp[bytesOf] at hb
theorem foldl_push(ns:List Int)(s:ByteArray):(ns.foldl (fun r n=>r.push (UInt8.ofNat n.toNat)) s).data.toList=s.data.toList++ns.map fun n=>UInt8.ofNat n.toNat:=by
 induction ns generalizing s with
 |nil=>simp
 |cons n ns ih=>simp[ih]
theorem Jae{es:List PV}{l:List UInt8}(h:bytesOf es=some l):flat es=es:=by
 induction es generalizing l with
 |nil=>rfl
 |cons p es ih=>
  cases p with
  |int k n=>
   cases k with
   |u8=>simp only[bytesOf,dc] at h;obtain⟨l',h1,_⟩:=h;simp[flat,PV.cells,ih h1]
   |_=>simp[bytesOf] at h
  |_=>simp[bytesOf] at h
theorem TV(hS:Lb fo B0 w R φ H){es:List PV}{l:List UInt8}{vx:Value}(hp:Na R (.lit 1 es) vx)(hb:bytesOf es=some l):(Conv.bytesToString vx).run P w= .ok (.string ⟨l.toArray⟩) w:=by
 cases hp with
 |lit _ _ b o cap h1 h2 h3=>
  obtain⟨vs,k1,k2,k3⟩:=h3.list
  rw[Jae hb] at k1;obtain⟨ns,rfl,rfl⟩:=xW hb k1;have hl:=k1.length
  have:=run_bytesToString (P:=P) w ⟨b,o,none⟩ es.length cap ns (by have:=pJ (P:=P) (w:=w) (b:=b) (o:=o) (vs:=ns.map (Value.int .u8)) (fun j v hj=>hS.sub _ _ _ (k3 j v hj)) hl;simpa using this)
  rw[this]
  congr 2
  have h4:=foldl_push ns ByteArray.empty
  generalize ns.foldl (fun r n=>r.push (UInt8.ofNat n.toNat)) ByteArray.empty=z at h4
  obtain⟨⟨z⟩⟩:=z;simp at h4;subst h4;rfl
 |Br _ a=>simp only[bytesOf,xb] at hb;subst hb;simp[Conv.bytesToString,loadCells,loadCellsFrom];rfl
theorem Cag(off:Nat):∀ (vs:List Value)(k:Nat)(cs:Array Value),((vs.zipIdx k).foldl (fun (cs:Array Value)(x:Value×Nat)=>cs.setIfInBounds (off+x.2) x.1) cs).toList=za cs.toList (off+k) vs:=by
 intro vs
 induction vs with
 |nil=>intro k cs;simp[za]
 |cons v vs ih=>intro k cs;simp only[List.zipIdx_cons,zx];rw[ih];simp[za,Nat.add_assoc]
theorem MR(place:Nat->Option (Nat×Nat)):∀ {ba:List (Nat×Value)}{aparts:List (Nat×Nat×AV)}{cs:Array Value}{WC OK:List AV},ba.length=aparts.length->
 (∀ (j:Nat)(i:Nat)(v:Value)(off sz:Nat)(x:AV),ba[j]? =some (i,v)->aparts[j]? =some (off,sz,x)->place i=some (off,sz)/\Yb fo (K R φ H) x v)->
 Qb fo (K R φ H) WC cs.toList->cn WC aparts=some OK->∃ ph,Instr.fill place cs ba=some ph/\Qb fo (K R φ H) OK ph.toList
 | [],[],cs,WC,OK,_,_,hc,h=>by simp[cn] at h;subst h;exact⟨cs,rfl,hc⟩
 | (i,v)::ba,(off,sz,x)::aparts,cs,WC,OK,hl,hp,hc,h=>by
   obtain⟨h1,h2⟩:=hp 0 i v off sz x rfl rfl;simp only[cn] at h
   split at h
   ·rename_i Ts
    obtain⟨q1,q2,h3⟩:=Ts;have Xv:=DL h2 h3;have hlen:=Xv.length
    have fc:=hc.length
    have ib:v.cells.size=sz:=by rw[<- q1,<-hlen];simp
    have zu:¬(v.cells.size≠sz\/off+v.cells.size > cs.size):=by
     have:cs.size=WC.length:=by rw[<- fc];simp
     omega
    have Up:Qb fo (K R φ H) (za WC off x.cells) (v.cells.zipIdx.foldl (fun (cs:Array Value)(y:Value×Nat)=>cs.setIfInBounds (off+y.2) y.1) cs).toList:=by
     have:(v.cells.zipIdx.foldl (fun (cs:Array Value)(y:Value×Nat)=>cs.setIfInBounds (off+y.2) y.1) cs).toList=za cs.toList off v.cells.toList:=by
      have:=Cag off v.cells.toList 0 cs
      rw[Vz] at this;rw[<- this]
      congr 1
      rw[<- Array.foldl_toList,Array.toList_zipIdx]
     rw[this];exact hc.za off Xv
    obtain⟨ph,r1,r2⟩:=MR place (ba:=ba) (aparts:=aparts) (by simpa using hl) (fun j i v off sz x e1 e2=>hp (j+1) i v off sz x (by simpa using e1) (by simpa using e2)) Up h;refine⟨ph,?_,r2⟩;simp only[Instr.fill,h1];rw[qa (by simpa using zu)];exact r1
   ·cases h
 | [],_::_,_,_,_,hl,_,_,_=>by simp at hl
 |_::_,[],_,_,_,hl,_,_,_=>by simp at hl
theorem bY(place:Nat->Option (Nat×Nat)):∀ (ba:List (Nat×Value))(cs ph:Array Value),Instr.fill place cs ba=some ph->ph.size=cs.size
 | [],cs,ph,h=>by simp[Instr.fill] at h;rw[h]
 | (i,v)::ba,cs,ph,h=>by
   simp only[Instr.fill] at h
   split at h
   ·cases h
   ·split at h
    ·cases h
    ·rw[bY place ba _ _ h]
     have key:∀ (l:List (Value×Nat))(cs:Array Value)(off:Nat),(l.foldl (fun (cs:Array Value)(x:Value×Nat)=>cs.setIfInBounds (off+x.2) x.1) cs).size=cs.size:=by
      intro l
      induction l with
      |nil=>intro cs off;rfl
      |cons x l ih=>intro cs off;simp only[zx];rw[ih];simp
     rw[<- Array.foldl_toList];exact key _ _ _
end ops
end Go.AM
namespace Go.AM
open Go.RowKit
def cj(zs:List Value):Nat->List Value
 |0=>[]
 |n+1=>zs++cj zs n
theorem lO(zs:List Value)(n:Nat):(cj zs n).length=n * zs.length:=by
 induction n with
 |zero=>simp[cj]
 |succ n ih=>simp[cj,ih,Nat.add_mul];omega
theorem Qao(zs:List Value)(m n:Nat):cj zs (m+n)=cj zs m++cj zs n:=by
 induction m with
 |zero=>simp[cj]
 |succ m ih=>rw[Nat.add_right_comm];simp[cj,ih]
theorem Rao(zs:List Value)(h0:0 < zs.length):∀ (n i:Nat),i < n * zs.length->(cj zs n)[i]? =zs[i % zs.length]? :=by
 intro n
 induction n with
 |zero=>intro i hi;simp at hi
 |succ n ih=>
  intro i hi;simp only[cj]
  by_cases hlt:i < zs.length
  ·rw[Kc hlt,KK hlt]
  ·rw[Tg (by omega),ih _ (by rw[Nat.add_mul] at hi;omega)]
   rw[Nat.mod_eq_sub_mod (by omega:i>=zs.length)]
theorem M6(z:Array Value)(n sz:Nat)(hz:z.size=sz)(h0:0 < sz):((Array.range (n * sz)).map fun i=>z[i % z.size]!).toList=cj z.toList n:=by
 apply Nl;intro i
 by_cases hi:i < n * sz
 ·rw[Rao _ (by simpa[hz] using h0) _ _ (by simpa[hz] using hi)]
  have hm:i % sz < z.size:=by rw[hz];exact Cx _ h0
  simp[hi,hz];rw[getElem!_pos z _ hm,getElem?_pos z _ hm]
 ·rw[dh (by simp;omega),dh (by rw[lO];simp[hz];omega)]
section ops
variable {P:Program}{fo:Nat->FuncId}{B0:qd}{w:World}{R:Rd}{φ:Pl}{H:List fa}{e:Tr}{a:Act}
theorem LU{zero:List PV}{zs:List Value}(h:Cc R zero zs):∀ n,Qb fo (K R φ H) (Yf zero n) (cj zs n)
 |0=> .nil
 |n+1=>(Qb.RB h).append (LU h n)
theorem x7{zero:List PV}(h:(zero.map AV.pv).all AV.one=true):∀ n,(Yf zero n).all AV.one=true
 |0=>rfl
 |n+1=>by simp only[Yf,List.all_append,fb];exact⟨h,x7 h n⟩
structure LF(P:Program)(el:TypeId)(sz:Nat)(ag:Bool)(zero:List PV):Prop where
 bq:Sd P el=some sz
 pos:0 < sz
 Ps:ag=false->sz=1
 hz:Vw P el zero=true
 pt:zero.length=sz
theorem LF.zero{el:TypeId}{sz:Nat}{ag:Bool}{zero:List PV}(h:LF P el sz ag zero):∃ i z,P.info? el=some i/\i.zero=some z/\z.cells.size=sz/\Cc R zero z.cells.toList/\(zero.map AV.pv).all AV.one=true:=by
 have hz:=h.hz
 unfold Vw at hz;cases hi:P.info? el with
 |none=>simp[hi] at hz
 |some i=>
  simp only[hi] at hz;cases Vj:i.zero with
  |none=>simp[Vj] at hz
  |some z=>
   simp only[Vj] at hz;obtain⟨h1,h2⟩:=FH (R:=R) hz;have:=h1.length
   exact⟨i,z,rfl,Vj,by rw[<- h.pt,<-this];simp,h1,h2⟩
theorem yab(hS:Lb fo B0 w R φ H){t el:TypeId}{sz len:Nat}{ag:Bool}{zero:List PV}(hu:P.underlying t=some (.slice el))(hE:LF P el sz ag zero)(gN:len * sz<=2 ^ 24)
 {ba:List (Nat×Value)} {aparts:List (Nat×Nat×AV)} (hl:ba.length=aparts.length)
 (hp:∀ (j:Nat)(i:Nat)(v:Value)(off s:Nat)(x:AV),ba[j]? =some (i,v)->aparts[j]? =some (off,s,x)->off=i * sz/\s=sz/\Yb fo (K R φ H) x v)
 {hold:Qc} {cs:List AV} (hf:cn (Yf zero len) aparts=some cs) (mf:cs.all AV.one=true) {v:AV} {H':List fa} (hfr:fresh H hold sz ag len cs=some (v,H')):
 Ug fo B0 w R φ H P (Instr.buildSlice t len ba.toArray) v H':=by
 obtain⟨i,z,hi,hz,cm,qt,ft⟩:=hE.zero (R:=R)
 have th:=hE.pos
 have hzero:(if len * sz=0 then (pure #[]:Sem (Array Value)) else do pure (<- zeroValue el).cells).run P w= .ok (if len * sz=0 then #[] else z.cells) w:=by
  by_cases h0:len * sz=0
  ·simp[h0]
  ·simp[h0,zeroValue,run_typeInfo w hi,hz]
 have Hai:Qb fo (K R φ H) (Yf zero len) ((Array.range (len * sz)).map fun i=>(if len * sz=0 then #[] else z.cells)[i % (if len * sz=0 then #[] else z.cells).size]!).toList:=by
  by_cases h0:len * sz=0
  ·have:len=0:=by
    rcases Wz.1 h0 with h | h
    ·exact h
    ·omega
   subst this;simpa[Yf] using Qb.nil
  ·simp only[qa h0]
   rw[M6 _ _ _ cm th];exact LU qt _
 obtain⟨ph,eI,hrel⟩:=MR (fo:=fo) (R:=R) (φ:=φ) (H:=H) (fun i=>some (i * sz,sz)) hl (fun j i v off s x e1 e2=>by obtain⟨q1,q2,q3⟩:=hp j i v off s x e1 e2;subst q1 q2;exact⟨rfl,q3⟩) Hai hf
 have hlen:cs.length=len * sz:=by
  rw[<- hrel.length];have:ph.size=len * sz:=by have h1:=bY (fun i=>some (i * sz,sz)) _ _ _ eI;rw[h1];simp
  simpa using this
 have:=VR (w':={w with heap:=w.heap.push (.cells ⟨ph.toList++[]⟩ el (0,0))}) hS (rest:=[]) hrel mf th (n:=len) (cap:=len) (by rw[hrel.length,hlen]) (by simp;rw[<- hlen,<-hrel.length];simp) hE.Ps (fun o _ h=>by omega) rfl rfl rfl rfl hfr
 have hle:¬(len * sz > 2 ^ 24):=by omega
 have jd:(Instr.buildSlice t len ba.toArray).run P w= .ok (.slice (some ⟨w.heap.size,0,none⟩) len len) {w with heap:=w.heap.push (.cells ⟨ph.toList++[]⟩ el (0,0))}:=by
  have xc:ba.toArray.toList=ba:=by simp
  by_cases h0:len * sz=0
  ·simp only[if_pos h0] at eI
   simp only[Instr.buildSlice,Sem.run_bind,run_underlying hu,Result.andThen_ok,qj hE.bq,Sem.run_ite,hle,if_false,Sem.run_pure,if_pos h0,xc,eI];simp[newRow]
  ·simp only[qa h0] at eI
   simp only[Instr.buildSlice,Sem.run_bind,run_underlying hu,Result.andThen_ok,qj hE.bq,Sem.run_ite,hle,if_false,Sem.run_pure,qa h0,xc,zeroValue,run_typeInfo w hi,hz,eI];simp[newRow]
 rw[Ug,jd];exact this
theorem N0{n:Int}(h0:0<=n)(h:n<=9223372036854775807):IntKind.i64.wrap n=n:=IntWalk.i64_in _ (by omega)
theorem Yal(hS:Lb fo B0 w R φ H){t el:TypeId}{sz bytes:Nat}{ag:Bool}{zero:List PV}(hu:P.underlying t=some (.slice el))(hE:LF P el sz ag zero)(hby:Qq P el=some bytes)(Im:0 < bytes)
 {k k':IntKind} {l c:Int} (h0:0<=l) (h1:l<=c) (h2:c.toNat * bytes<=140737488355328) {hold:Qc} {v:AV} {H':List fa} (hfr:fresh H hold sz ag l.toNat (Yf zero l.toNat)=some (v,H')):
 Ug fo B0 w R φ H P (Instr.makeSlice t (.int k l) (.int k' c)) v H':=by
 obtain⟨i,z,hi,hz,cm,qt,ft⟩:=hE.zero (R:=R)
 have th:=hE.pos
 unfold Qq at hby;simp only[hi,Vc,xb] at hby;have hcb:(c.toNat:Int)=c:=by omega
 have vat:c.toNat<=c.toNat * bytes:=Nat.le_mul_of_pos_right _ Im
 have Oah:c<=9223372036854775807:=by omega
 have D0:=N0 h0 (by omega:l<=9223372036854775807);have y0:=N0 (by omega:0<=c) Oah;have QM:¬((bytes:Int) * c > 2 ^ 48):=by
  have:(bytes:Int) * c=((c.toNat * bytes:Nat):Int):=by rw[Nat.mul_comm];push_cast;rw[hcb]
  rw[this];omega
 have qat:¬((bytes:Int) * c > 281474976710656):=by simpa using QM
 obtain⟨d,hd⟩:∃ d:Nat,c.toNat=l.toNat+d:=⟨c.toNat - l.toNat,by omega⟩
 have hzero:(if c.toNat * sz=0 then (pure #[]:Sem (Array Value)) else do pure (<- zeroValue el).cells).run P w= .ok (if c.toNat * sz=0 then #[] else z.cells) w:=by
  by_cases h0:c.toNat * sz=0
  ·simp[h0]
  ·simp[h0,zeroValue,run_typeInfo w hi,hz]
 have qu:((Array.range (c.toNat * sz)).map fun i=>(if c.toNat * sz=0 then #[] else z.cells)[i % (if c.toNat * sz=0 then #[] else z.cells).size]!)=⟨cj z.cells.toList l.toNat++cj z.cells.toList d⟩:=by
  apply Pk;show _=cj z.cells.toList l.toNat++cj z.cells.toList d
  rw[<- Qao,<-hd]
  by_cases h0:c.toNat * sz=0
  ·have:c.toNat=0:=by
    rcases Wz.1 h0 with h | h
    ·exact h
    ·omega
   rw[this];simp[cj]
  ·simp only[qa h0]
   exact M6 _ _ _ cm th
 have pt:z.cells.toList.length=sz:=by simpa using cm
 have:=VR (w':={w with heap:=w.heap.push (.cells ⟨cj z.cells.toList l.toNat++cj z.cells.toList d⟩ el (0,0))}) hS (rest:=cj z.cells.toList d) (LU (fo:=fo) (φ:=φ) (H:=H) qt l.toNat) (x7 ft _) th (n:=l.toNat) (cap:=c.toNat)
  (by rw[lO,pt]) (by rw[Pc,lO,lO,pt,hd,Nat.add_mul]) hE.Ps (fun o _ h=>by omega) rfl rfl rfl rfl hfr
 have jd:(Instr.makeSlice t (.int k l) (.int k' c)).run P w= .ok (.slice (some ⟨w.heap.size,0,none⟩) l.toNat c.toNat) {w with heap:=w.heap.push (.cells ⟨cj z.cells.toList l.toNat++cj z.cells.toList d⟩ el (0,0))}:=by
  have xB:¬(c < 0):=by omega
  have yo:¬(l < 0):=by omega
  have gT:¬(l > c):=by omega
  have Pe:((decide (c < 0)||decide ((bytes:Int) * c > 2 ^ 48))||decide (l < 0)||decide (l > c))=false:=by simp only[xB,yo,gT,QM,decide_false,xz]
  by_cases h0:c.toNat * sz=0
  ·simp only[if_pos h0] at qu
   simp only[Instr.makeSlice,Sem.run_bind,run_underlying hu,Result.andThen_ok,Go.asInt,asIntOf,Sem.run_pure,run_typeInfo w hi,D0,y0,hby,Pe,Sc,if_false,run_askRoom,qj hE.bq,Sem.run_ite,if_pos h0,qu,newRow,run_newObj]
  ·simp only[qa h0] at qu
   simp only[Instr.makeSlice,Sem.run_bind,run_underlying hu,Result.andThen_ok,Go.asInt,asIntOf,Sem.run_pure,run_typeInfo w hi,D0,y0,hby,Pe,Sc,if_false,run_askRoom,qj hE.bq,Sem.run_ite,qa h0,zeroValue,hz,qu,newRow,run_newObj]
 rw[Ug,jd];exact this
end ops
end Go.AM
namespace Go.AM
open Go.RowKit
section ops
variable {P:Program}{fo:Nat->FuncId}{B0:qd}{w:World}{R:Rd}{φ:Pl}{H:List fa}{e:Tr}{a:Act}
theorem zaa(hS:Lb fo B0 w R φ H){t tx ty el:TypeId}{sz bytes:Nat}(hA:LJ P t tx el sz bytes){ys:List PV}{vx:Value}{x:AV}(hx:Yb fo (K R φ H) x vx)(hy:Bg sz x=some ys)
 (hroomb:ys.length * bytes<=140737488355328) {hold:Qc} {v:AV} {H':List fa}
 (h:Dr H hold sz ys=some (v,H')):Ug fo B0 w R φ H P (Builtin.append_ #[t,tx] ty #[.slice none 0 0,vx]) v H':=by
 obtain⟨news,hl,Fg,VM⟩:=iV (P:=P) hS hx hy;obtain⟨dx,hux,hdx⟩:=hA.hx
 cases ys with
 |nil=>have rI:news=[]:=Ze (by rw[Fg.num];simp);subst rI;simp[Dr] at h;obtain⟨rfl,rfl⟩:=h;exact Je.same _ hS (run_append_nil (ty:=ty) hA.hu hux hdx hA.bq Fg) (.atom _ _ (show Na R _ _ from .oa))
 |cons y ys=>
  obtain⟨C,rest,w',jd,hC,JE,hheap,hos,htape,Gi⟩:=run_append_grow (ty:=ty) (n0:=0) (cap:=0) (olds:=[]) (base:=none) hA.hu hux hdx hA.bq hA.RM hA.pos hA.hzero Fg (fun d=>by simp[Builtin.firstCells]) (by simp) (by simpa using hroomb)
  rw[Ug,jd];simp only[De,Kf] at hC JE hheap ⊢;have zu:(news++rest).length=C * sz:=by rw[Pc,Fg.num,JE,<-Nat.add_mul];congr 1;omega
  have:=SR (fo:=fo) (B0:=B0) hS hl Fg.one hA.pos' VM zu (fun o _ h=>by omega) hheap hos htape Gi
  cases hold with
  |lit=>simp only[Dr,xb,Jb] at h;obtain⟨rfl,rfl⟩:=h;exact this.1
  |uq=>simp only[Dr,xb,Jb] at h;obtain⟨rfl,rfl⟩:=h;exact this.2
  |own=>simp[Dr] at h
theorem Dap(hS:Lb fo B0 w R φ H){s d el:TypeId}{ds:TypeDesc}(hs:P.underlying s=some ds)(hd:P.underlying d=some (.slice el))(he:P.underlying el=some (.int .u8)){b:ByteArray}
 {hold:Qc} {v:AV} {H':List fa} (hfr:fresh H hold 1 false b.size (b.data.toList.map fun x=>AV.pv (.int .u8 x.toNat))=some (v,H')):
 Ug fo B0 w R φ H P (convert s d (.string b)) v H':=by
 have wS:b.data.toList.length=b.size:=by rw[wC];rfl
 have NS:(Question.appendCap b.size 0 el).forced=false:=rfl
 have Sj:b.size<=(Question.appendCap b.size 0 el).cut (w.tape w.drawn (.appendCap b.size 0 el)):=by simp only[Question.cut];omega
 have gB:(choose (.appendCap b.size 0 el)).run P w= .ok ((Question.appendCap b.size 0 el).cut (w.tape w.drawn (.appendCap b.size 0 el))) (wd w (w.drawn+1)):=by simp[NS];rfl
 generalize (Question.appendCap b.size 0 el).cut (w.tape w.drawn (.appendCap b.size 0 el))=C at gB Sj
 have FI:Qb fo (K R φ H) (b.data.toList.map fun x=>AV.pv (.int .u8 x.toNat)) (b.data.toList.map fun x=>Value.int .u8 x.toNat):=Qb.Jal _ fun x _=> .atom _ _ (show Na R _ _ from .int _ _)
 have h1:(b.data.toList.map fun x=>AV.pv (.int .u8 x.toNat)).all AV.one=true:=by rw[Df];intro x hx;simp only[Re] at hx;obtain⟨y,_,rfl⟩:=hx;rfl
 have qu:(b.data.map fun x=>Value.int .u8 x.toNat)++Array.replicate (C - b.size) (Value.int .u8 0)=⟨(b.data.toList.map fun x=>Value.int .u8 x.toNat)++List.replicate (C - b.size) (Value.int .u8 0)⟩:=by apply Pk;simp
 have hlen:((b.data.toList.map fun x=>Value.int .u8 x.toNat)++List.replicate (C - b.size) (Value.int .u8 0)).length=C * 1:=by rw[Pc,wb,wS,Gq];omega
 have:=VR (w':={wd w (w.drawn+1) with heap:=w.heap.push (.cells ⟨(b.data.toList.map fun x=>Value.int .u8 x.toNat)++List.replicate (C - b.size) (Value.int .u8 0)⟩ el (C,C+1))}) hS (rest:=List.replicate (C - b.size) (Value.int .u8 0)) FI h1 (sz:=1) (n:=b.size) (cap:=C) (by omega)
  (by rw[wb,wS];omega) hlen (fun _=>rfl) (fun o ho h=>by rw[hlen] at ho;simp at h;omega) rfl rfl rfl rfl hfr
 have jd:(convert s d (.string b)).run P w= .ok (.slice (some ⟨w.heap.size,0,none⟩) b.size C) {wd w (w.drawn+1) with heap:=w.heap.push (.cells ⟨(b.data.toList.map fun x=>Value.int .u8 x.toNat)++List.replicate (C - b.size) (Value.int .u8 0)⟩ el (C,C+1))}:=by
  have Qaj:World.shape? {wd w (w.drawn+1) with heap:=w.heap.push (.cells ⟨(b.data.toList.map fun x=>Value.int .u8 x.toNat)++List.replicate (C - b.size) (Value.int .u8 0)⟩ el)} w.heap.size=some (el,C):=by simp[World.shape?];omega
  have wai:World.freeze {wd w (w.drawn+1) with heap:=w.heap.push (.cells ⟨(b.data.toList.map fun x=>Value.int .u8 x.toNat)++List.replicate (C - b.size) (Value.int .u8 0)⟩ el)} ⟨w.heap.size,C,none⟩ 1=
   {wd w (w.drawn+1) with heap:=w.heap.push (.cells ⟨(b.data.toList.map fun x=>Value.int .u8 x.toNat)++List.replicate (C - b.size) (Value.int .u8 0)⟩ el (C,C+1))}:=by
   simp only[World.freeze];rw[qa (by omega)]
   congr 1
   apply Array.ext_getElem?
   intro i;rw[vC,Array.getElem?_push,Array.getElem?_push]
   by_cases hi:i=w.heap.size
   ·subst hi;simp
   ·simp[hi,tf hi]
  have fai:(Conv.stringToBytes el b).run P w= .ok (.slice (some ⟨w.heap.size,0,none⟩) b.size C) {wd w (w.drawn+1) with heap:=w.heap.push (.cells ⟨(b.data.toList.map fun x=>Value.int .u8 x.toNat)++List.replicate (C - b.size) (Value.int .u8 0)⟩ el (C,C+1))}:=by simp only[Conv.stringToBytes,Sem.run_bind,gB,Result.andThen_ok,newRow,qu,run_newObj,Sem.run_pure,markStringish,run_shape];rw[show (wd w (w.drawn+1)).heap=w.heap from rfl];simp only[Qaj,run_freeze,Result.andThen_ok,wai]
  cases ds <;> simp[convert,run_underlying hs,run_underlying hd,run_underlying he,fai]
 rw[Ug,jd];exact this
theorem iF{t:TypeId}{ag:Bool}{n off:Nat}{cs:Array Value}(ha:zg P t=some ag)(hn:ag=true->Sd P t=some n)(hv:ag=false->∃ v,cs[off]? =some v):
 (part t cs off).run P w= .ok (if ag then .agg (cs.extract off (off+n)) else cs.getD off undef) w:=by
 cases ag with
 |true=>simp[part,vO ha,qj (hn rfl)]
 |false=>obtain⟨v,hv⟩:=hv rfl;simp[part,vO ha,hv,Sm]
theorem tY(hS:Lb fo B0 w R φ H){t:TypeId}{ag:Bool}{n off:Nat}{cs:List PV}{vs:List Value}(ha:zg P t=some ag)(hn:ag=true->Sd P t=some n)(hl:Cc R cs vs){p:PV}(hp:Dj ag n cs off=some p):
 Ug fo B0 w R φ H P (part t ⟨vs⟩ off) (.pv p) H:=by
 cases ag with
 |true=>
  simp only[Dj,if_true] at hp
  split at hp
  ·injection hp with hp;subst hp
   refine Je.same _ hS (iF ha hn (fun h=>by cases h)) (.atom _ _ ?_)
   show Na _ _ _;have:(⟨vs⟩:Array Value).extract off (off+n)=⟨(vs.drop off).take n⟩:=by apply Pk;simp[List.extract_eq_take_drop]
   simp only[if_true,this];exact .agg _ _ ((hl.drop off).take n)
  ·cases hp
 |false=>
  simp only[Dj,Sc,if_false] at hp;obtain⟨v,hv,h2⟩:=hl.get hp
  refine Je.same v hS ?_ (.atom _ _ h2)
  rw[iF (cs:=⟨vs⟩) ha hn (fun _=>⟨v,by simpa using hv⟩)];simp[Sm,hv]
theorem sY(hS:Lb fo B0 w R φ H){t:TypeId}{ag:Bool}{n off:Nat}{cs:List AV}{vs:List Value}(ha:zg P t=some ag)(hn:ag=true->Sd P t=some n)(hl:Qb fo (K R φ H) cs vs){p:AV}(hp:tg ag n cs off=some p):
 Ug fo B0 w R φ H P (part t ⟨vs⟩ off) p H:=by
 cases ag with
 |true=>
  simp only[tg,if_true] at hp
  split at hp
  ·injection hp with hp;subst hp
   refine Je.same _ hS (iF ha hn (fun h=>by cases h)) ?_
   have:(⟨vs⟩:Array Value).extract off (off+n)=⟨(vs.drop off).take n⟩:=by apply Pk;simp[List.extract_eq_take_drop]
   simp only[if_true,this];exact IN ((hl.drop off).take n)
  ·cases hp
 |false=>
  simp only[tg,Sc,if_false] at hp;obtain⟨v,hv,h2⟩:=hl.get hp
  refine Je.same v hS ?_ h2
  rw[iF (cs:=⟨vs⟩) ha hn (fun _=>⟨v,by simpa using hv⟩)];simp[Sm,hv]
theorem KV{x:AV}{vx:Value}(hx:Yb fo (K R φ H) x vx):(∀ cs,x= .pv (.agg cs)->∃ vs,vx= .agg ⟨vs⟩/\Cc R cs vs)/\(∀ cs,x= .agg cs->∃ vs,vx= .agg ⟨vs⟩/\Qb fo (K R φ H) cs vs):=by
 constructor
 ·rintro cs rfl
  have:=hx.xd
  cases this with | agg _ vs h=>exact⟨vs,rfl,h⟩
 ·rintro cs rfl
  cases hx with
  |atom _ _ h=>exact h.elim
  |agg _ vs h=>exact⟨vs,rfl,h⟩
theorem bas{x:AV}{vx:Value}(hx:Yb fo (K R φ H) x vx):(∀ cs,x= .pv (.Ba cs)->∃ vs,vx= .tuple ⟨vs⟩/\Cc R cs vs)/\(∀ cs,x= .Ba cs->∃ vs,vx= .tuple ⟨vs⟩/\Qb fo (K R φ H) cs vs):=by
 constructor
 ·rintro cs rfl
  have:=hx.xd
  cases this with | Ba _ vs h=>exact⟨vs,rfl,h⟩
 ·rintro cs rfl
  cases hx with
  |atom _ _ h=>exact h.elim
  |Ba _ vs h=>exact⟨vs,rfl,h⟩
theorem nW(mx:Bool):∀ {xs:List AV}{vs:List Value}{k:IntKind}{x:Int}{p:PV},Qb fo (K R φ H) xs vs->Rf mx k x xs=some p->∃ v,(vs.foldlM (if mx then Builtin.max2 else Builtin.min2) (.int k x)).run P w= .ok v w/\Na R p v
 | [],_,k,x,p,h,hb=>by cases h;simp[Rf] at hb;subst hb;exact⟨.int k x,by simp,.int _ _⟩
 | .pv (.int k' y)::xs,_,k,x,p,h,hb=>by
   cases h with
   |cons _ _ v vs h1 h2=>rw[xj h1 rfl];simp only[Rf] at hb;obtain⟨u,q1,q2⟩:=nW mx h2 hb;refine⟨u,?_,q2⟩;rw[<- q1];cases mx <;> simp[List.foldlM_cons,Builtin.max2,Builtin.min2]
 | .pv (.bool _)::_,_,_,_,_,_,hb=>by simp[Rf] at hb
 | .pv (.str _)::_,_,_,_,_,_,hb=>by simp[Rf] at hb
 | .pv .Ic::_,_,_,_,_,_,hb=>by simp[Rf] at hb
 | .pv .oa::_,_,_,_,_,_,hb=>by simp[Rf] at hb
 | .pv .Gk::_,_,_,_,_,_,hb=>by simp[Rf] at hb
 | .pv .Fk::_,_,_,_,_,_,hb=>by simp[Rf] at hb
 | .pv .Eo::_,_,_,_,_,_,hb=>by simp[Rf] at hb
 | .pv (.rp _ _)::_,_,_,_,_,_,hb=>by simp[Rf] at hb
 | .pv (.lit _ _)::_,_,_,_,_,_,hb=>by simp[Rf] at hb
 | .pv (.agg _)::_,_,_,_,_,_,hb=>by simp[Rf] at hb
 | .pv (.Ba _)::_,_,_,_,_,_,hb=>by simp[Rf] at hb
 | .pv (.iface _ _)::_,_,_,_,_,_,hb=>by simp[Rf] at hb
 | .ptr _ _::_,_,_,_,_,_,hb=>by simp[Rf] at hb
 | .Sb _ _ _::_,_,_,_,_,_,hb=>by simp[Rf] at hb
 | .uq _ _ _ _::_,_,_,_,_,_,hb=>by simp[Rf] at hb
 | .own _ _::_,_,_,_,_,_,hb=>by simp[Rf] at hb
 | .Ec _ _::_,_,_,_,_,_,hb=>by simp[Rf] at hb
 | .mp _::_,_,_,_,_,_,hb=>by simp[Rf] at hb
 | .agg _::_,_,_,_,_,_,hb=>by simp[Rf] at hb
 | .Ba _::_,_,_,_,_,_,hb=>by simp[Rf] at hb
 | .undef::_,_,_,_,_,_,hb=>by simp[Rf] at hb
end ops
end Go.AM
