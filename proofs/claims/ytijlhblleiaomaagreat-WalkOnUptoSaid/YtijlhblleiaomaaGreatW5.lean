/- What functions of the program compute. -/
import Derived.Test.YtijlhblleiaomaaGreatW2
set_option linter.unusedVariables false
set_option linter.unusedSimpArgs false
namespace Go.AM.B1
open Go.AM
theorem Ln (A:List ba) (o:ba):(A++[o])[A.length]? =some o:=by simp
theorem On (A:List ba) (o o':ba):(A++[o]).set A.length o'=A++[o']:=by
 apply List.ext_getElem?
 intro i
 by_cases h:i=A.length
 ·subst h;simp
 ·rw[List.getElem?_set_ne (Ne.symm h)]
  rcases Nat.lt_or_ge i A.length with h1 | h1
  ·rw[List.getElem?_append_left h1,List.getElem?_append_left h1]
  ·rw[List.getElem?_append_right h1,List.getElem?_append_right h1]
   have:i - A.length≠0:=by omega
   obtain⟨k,hk⟩:∃ k,i - A.length=k+1:=⟨i - A.length - 1,by omega⟩
   rw[hk];simp
abbrev u32 (n:Int):PV:= .int .u32 n
abbrev Fw (S:PV) (x d bits len i left:Int) (ends:Bool):Tr:=
 ((((((Tr.lf.set 18 (.pv (i64 i))).set 17 (.pv (i64 len))).set 16 (.pv S)).set 9 (.pv (.bool ends))).set 8 (.pv (u32 left))).set 4 (.pv (.rp [i64 d,u32 bits] 0))).set 2 (.pv (i64 x))
def Qy (bits:Int) (i:Nat):Bool:=IntKind.u32.wrap (((BitVec.ofInt IntKind.u32.bits (bits.fdiv (2 ^ min i IntKind.u32.bits)) &&& BitVec.ofInt IntKind.u32.bits 1).toNat:Nat):Int)==1
theorem zw (bits:Int) (i:Nat):(IntKind.u32.wrap (((BitVec.ofInt IntKind.u32.bits (bits.fdiv (2 ^ min i IntKind.u32.bits)) &&& BitVec.ofInt IntKind.u32.bits 1).toNat:Nat):Int)==1)=Qy bits i:=rfl
def KX (left:Int) (i:Nat):Int:=IntKind.u32.wrap (((BitVec.ofInt IntKind.u32.bits left ||| BitVec.ofInt IntKind.u32.bits (IntKind.u32.wrap (1 * 2 ^ min i IntKind.u32.bits))).toNat:Nat):Int)
theorem iI (left:Int) (i:Nat):IntKind.u32.wrap (((BitVec.ofInt IntKind.u32.bits left ||| BitVec.ofInt IntKind.u32.bits (IntKind.u32.wrap (1 * 2 ^ min i IntKind.u32.bits))).toNat:Nat):Int)=KX left i:=rfl
section
variable (call:Ua) (A:List ba) (ss:List PV) (x bits left:Int) (d:Nat) (ends:Bool) (i len:Nat) (hi:i < len) (hl:len=ss.length) (hw:len≤maxLen) (ps:List PV) (first:Int) (hs:ss[i]? =some (.agg [.lit 1 ps,i64 first]))
include hi hl hw hs
theorem TU (hb:Qy bits i=false):
 fa (pa call Db) (fun s=>some (tidy [2,4,8,9,16,17,18] s)) ⟨Fw (.lit 2 ss) x d bits len i left ends,A⟩=
  some (.norm,⟨Fw (.lit 2 ss) x d bits len (i+1:Nat) left ends,A++[.box [.pv (.lit 1 ps),.pv (i64 first)]]⟩):=by
 have e1:decide ((i:Int) < (len:Int))=true:=Fa (by omega)
 have hq:Ga (i:Int) ss.length:=by unfold Ga;omega
 have t1:((i:Int)).toNat=i:=by simp
 have t2:=Ya hi hw
 have hn:((i:Int) < 0)=False:=by simp
 simp -implicitDefEqProofs only[SP,SA,SQ,sevalprocAttr,fa,Db,e1,eq_true hq,t1,t2,hs,hn,zw,hb,wa,Ln,On,tidy,xc,Fw]
theorem eW (hb:Qy bits i=true) (qs:List PV) (hp:ps[d]? =some (.lit 2 qs)) (hdl:d < ps.length) (hd:d < 4611686018427387904) (hh:yk [.lit 2 qs,i64 x]=some (.bool false)):
 fa (pa call Db) (fun s=>some (tidy [2,4,8,9,16,17,18] s)) ⟨Fw (.lit 2 ss) x d bits len i left ends,A⟩=
  some (.norm,⟨Fw (.lit 2 ss) x d bits len (i+1:Nat) left ends,A++[.box [.pv (.lit 1 ps),.pv (i64 first)]]⟩):=by
 have e1:decide ((i:Int) < (len:Int))=true:=Fa (by omega)
 have hq:Ga (i:Int) ss.length:=by unfold Ga;omega
 have t1:((i:Int)).toNat=i:=by simp
 have t2:=Ya hi hw
 have hn:((i:Int) < 0)=False:=by simp
 have hq2:Ga (d:Int) ps.length:=by unfold Ga;omega
 have t3:((d:Int)).toNat=d:=by simp
 simp -implicitDefEqProofs only[SP,SA,SQ,sevalprocAttr,fa,Db,e1,eq_true hq,eq_true hq2,t1,t2,t3,hs,hn,zw,hb,hp,hh,Qf,vc,wa,Ln,On,tidy,xc,Fw]
theorem TW (hb:Qy bits i=true) (qs:List PV) (hp:ps[d]? =some (.lit 2 qs)) (hdl:d < ps.length) (hd:d < 4611686018427387904) (hh:yk [.lit 2 qs,i64 x]=some (.bool true)):
 fa (pa call Db) (fun s=>some (tidy [2,4,8,9,16,17,18] s)) ⟨Fw (.lit 2 ss) x d bits len i left ends,A⟩=
  some (.norm,⟨Fw (.lit 2 ss) x d bits len (i+1:Nat) (KX left i) (ends||(ps.length==d+1)),A++[.box [.pv (.lit 1 ps),.pv (i64 first)]]⟩):=by
 have e1:decide ((i:Int) < (len:Int))=true:=Fa (by omega)
 have hq:Ga (i:Int) ss.length:=by unfold Ga;omega
 have t1:((i:Int)).toNat=i:=by simp
 have t2:=Ya hi hw
 have hn:((i:Int) < 0)=False:=by simp
 have hq2:Ga (d:Int) ps.length:=by unfold Ga;omega
 have t3:((d:Int)).toNat=d:=by simp
 have t4:IntKind.i64.wrap ((d:Int)+1)=((d+1:Nat):Int):=Da (by omega)
 have t5:((ps.length:Int)==((d+1:Nat):Int))=(ps.length==d+1):=by
  rw[Bool.eq_iff_iff];simp;omega
 cases ends with
 |true=>simp -implicitDefEqProofs only[SP,SA,SQ,sevalprocAttr,fa,Db,e1,eq_true hq,eq_true hq2,t1,t2,t3,t4,t5,hs,hn,zw,iI,hb,hp,hh,Qf,vc,wa,Ln,On,tidy,xc,Fw]
 |false=>simp -implicitDefEqProofs only[SP,SA,SQ,sevalprocAttr,fa,Db,e1,eq_true hq,eq_true hq2,t1,t2,t3,t4,t5,hs,hn,zw,iI,hb,hp,hh,Qf,vc,wa,Ln,On,tidy,xc,Fw]
end
structure Rb where
 parts:List (List (Int×Int))
 first:Int
def oe (l:List (Int×Int)):PV:= .lit 2 (Dd l)
def Fe (s:Rb):PV:= .agg [.lit 1 (s.parts.map oe),i64 s.first]
def XQ (l:List (Int×Int)) (x:Int):Bool:=(Cf x 0 (Dx l)).2
def Ws (s:Rb) (d:Nat) (x:Int):Bool:=
 match s.parts[d]? with
 |some l=>XQ l x
 |none=>false
def eh (x bits:Int) (d:Nat):Nat→List Rb→Int×Bool→Int×Bool
 |_,[],acc=>acc
 |i,s::r,acc=>eh x bits d (i+1) r (if Qy bits i&&Ws s d x then (KX acc.1 i,acc.2||(s.parts.length==d+1)) else acc)
theorem wH (l:List (Int×Int)):iy (.lit 2 (Dd l))=some l:=by
 have:Sa Ty (Dd l)=some l:=by
  induction l with
  |nil=>rfl
  |cons p l ih=>simp only[Dd,List.map_cons,Sa,Ty,Option.bind_some] at ih ⊢;rw[ih];rfl
 exact this
theorem QO {l:List (Int×Int)} (h:l.length * 16≤140737488355328) (x:Int):yk [oe l,i64 x]=some (.bool (XQ l x)):=by
 simp only[yk,oe,wH,Option.bind_some,if_pos h];rfl
def zE (ss:List Rb):List ba:=ss.map fun s=> .box [.pv (.lit 1 (s.parts.map oe)),.pv (i64 s.first)]
section
variable (call:Ua) (H:List ba) (id:Nat) (rest:List AV) (S:PV) (ss:List Rb) (x bits:Int) (d:Nat)
 (hid:H[id]? =some (.box (.pv S::rest))) (hS:ri 2 S (ss.map Fe)) (hw:ss.length≤maxLen) (hd:d < 4611686018427387904)
 (Ba:∀ i s,ss[i]? =some s→Qy bits i=true→d < s.parts.length) (hsz:∀ s∈ss,∀ l∈s.parts,l.length * 16≤140737488355328)
include hid hS hw hd Ba hsz
theorem Lp:Ei call Vh [.ptr id 0,.pv (.agg [i64 d,u32 bits]),.pv (i64 x)] H=
 some (.pv (.uc [u32 (eh x bits d 0 ss (0,false)).1,.bool (eh x bits d 0 ss (0,false)).2]),H++zE ss):=by
 have ls:=hS.len
 simp only[List.length_map] at ls
 have key:=sk (g:=fa (pa call Db) (fun s=>some (tidy [2,4,8,9,16,17,18] s)))
  (fun i t=>∃ left ends,t=⟨Fw S x d bits ss.length i left ends,H++zE (ss.take i)⟩∧eh x bits d 0 ss (0,false)=eh x bits d i (ss.drop i) (left,ends))
  (fun ex t=>ex= .exit 0∧t=⟨(Fw S x d bits ss.length ss.length (eh x bits d 0 ss (0,false)).1 (eh x bits d 0 ss (0,false)).2).set 19 (.pv (.bool false)),H++zE ss⟩)
  qa ss.length 0 ⟨Fw S x d bits ss.length (0:Nat) 0 false,H⟩ (by unfold qa;unfold maxLen at hw;omega) (by omega) ⟨0,false,by simp[zE],rfl⟩ ?_ ?_
 ·obtain⟨ex,t,h,_,rfl,rfl⟩:=key
  generalize eh x bits d 0 ss (0,false)=r at *
  simp -implicitDefEqProofs only[SP,SA,SQ,sevalprocAttr,Vh,ls,hid,bp,tidy,xc,Fw,h]
  simp only[Fw] at h
  have h':qb (fa (pa call Db) (fun s=>some (tidy [2,4,8,9,16,17,18] s))) qa ⟨((((((Tr.lf.set 18 (.pv (i64 0))).set 17 (.pv (i64 ss.length))).set 16 (.pv S)).set 9 (.pv (.bool false))).set 8 (.pv (u32 0))).set 4 (.pv (.rp [i64 d,u32 bits] 0))).set 2 (.pv (i64 x)),H⟩=_:=h
  simp only[tidy,xc] at h'
  rw[h']
  simp -implicitDefEqProofs only[SP,SA,SQ,sevalprocAttr,vc]
 ·rintro i hi t ⟨left,ends,rfl,hb⟩
  have hlit:=hS.lit (i:=i) (by simpa using hi)
  subst hlit
  have hg:(ss.map Fe)[i]? =some (.agg [.lit 1 (ss[i].parts.map oe),i64 ss[i].first]):=by simp[hi,Fe]
  have hdr:ss.drop i=ss[i]::ss.drop (i+1):=List.drop_eq_getElem_cons hi
  have hJ:H++zE (ss.take (i+1))=H++zE (ss.take i)++[.box [.pv (.lit 1 (ss[i].parts.map oe)),.pv (i64 ss[i].first)]]:=by
   rw[List.take_succ_eq_append_getElem hi,zE,List.map_append,List.append_assoc];rfl
  rw[hdr,eh] at hb
  cases hbit:Qy bits i with
  |false=>
   rw[hbit] at hb
   refine .inl ⟨_,TU call _ _ x bits left d ends i ss.length hi (by simp) hw _ _ hg hbit,left,ends,by rw[hJ],hb⟩
  |true=>
   have hdl:=Ba i ss[i] (by simp[hi]) hbit
   have hp:(ss[i].parts.map oe)[d]? =some (.lit 2 (Dd ss[i].parts[d])):=by simp[hdl,oe]
   have hc:=QO (hsz ss[i] (List.getElem_mem hi) ss[i].parts[d] (List.getElem_mem hdl)) x
   have hat:Ws ss[i] d x=XQ ss[i].parts[d] x:=by simp[Ws,hdl]
   rw[hbit,hat,Bool.true_and] at hb
   cases hh:XQ ss[i].parts[d] x with
   |false=>
    rw[hh] at hb hc
    refine .inl ⟨_,eW call _ _ x bits left d ends i ss.length hi (by simp) hw _ _ hg hbit _ hp (by simpa using hdl) hd hc,left,ends,by rw[hJ],hb⟩
   |true=>
    rw[hh] at hb hc
    refine .inl ⟨_,TW call _ _ x bits left d ends i ss.length hi (by simp) hw _ _ hg hbit _ hp (by simpa using hdl) hd hc,_,_,by rw[hJ],?_⟩
    rw[hb]
    simp
 ·rintro t ⟨left,ends,rfl,hb⟩
  rw[List.drop_length] at hb
  simp only[eh] at hb
  refine⟨.exit 0,_,?_,rfl,rfl,rfl⟩
  rw[hb,List.take_length]
  have e1:decide ((ss.length:Int) < (ss.length:Int))=false:=Ka (by omega)
  simp -implicitDefEqProofs only[SP,SA,SQ,sevalprocAttr,fa,Db,e1,Fw]
end
end Go.AM.B1
namespace Go.AM.B1
open Go.AM
abbrev Al:=Nat×Int
def Ih (a:Al):PV:= .agg [i64 a.1,u32 a.2]
def BB (l:List Al) (k:Nat):List (PV×PV):=(l.zipIdx k).map fun p=>(Ih p.1,i64 p.2)
theorem zA (a:Al) (l:List Al) (k:Nat):BB (a::l) k=(Ih a,i64 k)::BB l (k+1):=rfl
theorem xF (a:Al):∀ (l:List Al) (k:Nat),BB (l++[a]) k=BB l k++[(Ih a,i64 (k+l.length:Nat))]
 | [],k=>by simp[BB]
 |b::l,k=>by rw[List.cons_append,zA,xF a l (k+1),zA];simp;omega
theorem GB (a b:Al):rk (.row [1,1]) (Ih a) (Ih b)=some (decide (a=b)):=by
 obtain⟨a1,a2⟩:=a;obtain⟨b1,b2⟩:=b
 simp only[Ih,rk,Th,Up,if_true,Option.bind_some,Option.map_some,Bool.and_true,Prod.mk.injEq,Bool.decide_and]
 congr 1
 rw[Bool.eq_iff_iff]
 simp
 intro _
 omega
def Ll (a:Al):List Al→Nat→Option Nat
 | [],_=>none
 |b::l,k=>if a=b then some k else Ll a l (k+1)
theorem tH (a:Al):∀ (l:List Al) (k j:Nat),Nl (.row [1,1]) (Ih a) (BB l k) j=some ((Ll a l k).map fun i=>(j+(i - k),i64 i)):=by
 intro l
 induction l with
 |nil=>intro k j;rfl
 |cons b l ih=>
  intro k j
  rw[zA,Nl,GB]
  simp only[Option.bind_some,Ll]
  by_cases h:a=b
  ·simp[h]
  ·rw[if_neg h,ih]
   simp only[h,decide_false,Bool.false_eq_true,if_false,Option.some.injEq]
   cases hi:Ll a l (k+1) with
   |none=>rfl
   |some i=>
    have:k+1≤i:=by
     clear ih
     induction l generalizing k with
     |nil=>simp[Ll] at hi
     |cons c l ihl=>
      simp only[Ll] at hi
      split at hi
      ·injection hi with hi;omega
      ·have:=ihl (k+1) hi;omega
    simp only[Option.map_some,Option.some.injEq,Prod.mk.injEq,and_true]
    omega
abbrev vj (R0 R1:ba) (S:PV) (nl:Bool) (sets:List Al) (rows:ba) (n:Nat) (T:List ba):List ba:=
 R0::R1:: .map (BB sets 0):: .box [.pv S,.mp 2,.uq 4 nl 2 (sets.map Ih),.own 5 n]:: .tok 2 sets.length nl::rows::T
section
variable (call:Ua) (R0 R1:ba) (S:PV) (nl:Bool) (sets:List Al) (rows:ba) (n:Nat) (T:List ba) (a:Al)
theorem QV {i:Nat} (h:Ll a sets 0=some i):
 Ei call Hd [.ptr 3 0,.pv (Ih a)] (vj R0 R1 S nl sets rows n T)=some (.pv (.uc [i64 i,.bool true]),vj R0 R1 S nl sets rows n T):=by
 have hf:=tH a sets 0 0
 rw[h] at hf
 simp only[Option.map_some] at hf
 have hk:(rk (.row [1,1]) (Ih a) (Ih a)).isSome=true:=by rw[GB];rfl
 simp only[Ih] at hf hk
 simp -implicitDefEqProofs only[SP,SA,SQ,sevalprocAttr,Ih,Hd,hf,eq_true hk]
theorem eS (h:Ll a sets 0=none) (hl:sets.length=64):
 Ei call Hd [.ptr 3 0,.pv (Ih a)] (vj R0 R1 S nl sets rows n T)=some (.pv (.uc [i64 0,.bool false]),vj R0 R1 S nl sets rows n T):=by
 have hf:=tH a sets 0 0
 rw[h] at hf
 simp only[Option.map_none] at hf
 have hk:(rk (.row [1,1]) (Ih a) (Ih a)).isSome=true:=by rw[GB];rfl
 have e1:(((sets.map Ih).length:Int)==64)=true:=by simp[hl]
 simp only[Ih] at hf hk
 simp -implicitDefEqProofs only[SP,SA,SQ,sevalprocAttr,Hd,Ih,hf,eq_true hk,e1]
theorem SM (h:Ll a sets 0=none) (hl:sets.length < 64):
 Ei call Hd [.ptr 3 0,.pv (Ih a)] (vj R0 R1 S nl sets rows n T)=some (.pv (.uc [i64 sets.length,.bool true]),vj R0 R1 S false (sets++[a]) rows n T):=by
 have hf:=tH a sets 0 0
 rw[h] at hf
 simp only[Option.map_none] at hf
 have hk:(rk (.row [1,1]) (Ih a) (Ih a)).isSome=true:=by rw[GB];rfl
 have e1:((sets.length:Int)==64)=false:=Zh (by omega)
 have hp:=xF a sets 0
 rw[Nat.zero_add] at hp
 have q1:mb (sets.length+1) 16:=by unfold mb;omega
 have hlen:(sets.map Ih).length=sets.length:=by simp
 have hlen2:(sets++[a]).length=sets.length+1:=by simp
 have hmap:(sets++[a]).map Ih=sets.map Ih++[Ih a]:=by simp
 unfold vj
 rw[hp,hlen2,hmap]
 simp only[Ih] at hf hk ⊢
 simp -implicitDefEqProofs only[SP,SA,SQ,sevalprocAttr,Hd,hf,eq_true hk,e1,hlen,eq_true q1,Yh,AV.EB,AV.bo]
end
end Go.AM.B1
namespace Go.AM.B1
open Go.AM
theorem Am (n:Nat) (cs:List AV):oa n (.box cs)=(Sa (AV.cut n deep) cs).map .box:=rfl
theorem jm (n:Nat) (es:List (PV×PV)):oa n (.map es)=some (.map es):=rfl
theorem Ms (n sz:Nat) (ag:Bool) (cs:List AV) (fl:Nat) (nl:Bool):oa n (.seq sz ag cs fl nl)=if cs.all (AV.ze n deep)=true then some (.seq sz ag cs fl nl) else none:=rfl
theorem Km (n sz m:Nat) (nl:Bool):oa n (.tok sz m nl)=some (.tok sz m nl):=rfl
def wg (ss:List Rb) (a:Al) (x:Int) (sets:List Al):Option (List Al×Int):=
 if (eh x a.2 a.1 0 ss (0,false)).1=0 then some (sets,-2)
 else if (eh x a.2 a.1 0 ss (0,false)).2=true then some (sets,-1)
 else match Ll (a.1+1,(eh x a.2 a.1 0 ss (0,false)).1) sets 0 with
  |some k=>some (sets,(k:Int))
  |none=>if sets.length < 64 then some (sets++[(a.1+1,(eh x a.2 a.1 0 ss (0,false)).1)],(sets.length:Int)) else none
inductive Ht (k:Nat) (v:AV) (o:ba):Option (Ex×St)→Prop
 |mk (s:St):s.env.get k=v→s.H[0]? =some o→Ht k v o (some (.ret,s))
theorem RB {k:Nat} {v:AV} {o:ba} {s:St}:Ht k v o (some (.ret,s))=(s.env.get k=v∧s.H[0]? =some o):=
 propext ⟨fun h=>by cases h with | mk _ h h'=>exact⟨h,h'⟩,fun h=> .mk s h.1 h.2⟩
theorem xq {k:Nat} {v:AV} {o:ba} {r:Option (Ex×St)} (h:Ht k v o r):∃ t,r=some (.ret,t)∧t.env.get k=v∧t.H[0]? =some o:=by
 cases h with | mk s h h'=>exact⟨s,rfl,h,h'⟩
def Ha (l:List Int):List AV:=l.map fun n=> .pv (i64 n)
theorem Ui (l:List Int) (x:Nat) (v:Int):(Ha l).set x (.pv (i64 v))=Ha (l.set x v):=by simp[Ha,List.map_set]
theorem gb (l:List Int):(Ha l).length=l.length:=by simp[Ha]
theorem Fp (n d:Nat) (l:List Int):Sa (AV.cut n d) (Ha l)=some (Ha l):=by
 induction l with
 |nil=>rfl
 |cons a l ih=>simp only[Ha,List.map_cons,Sa,Ja,Option.bind_some] at ih ⊢;rw[ih];rfl
abbrev bm (i x:Int):Tr:=(((Tr.lf.set 30 (.pv (i64 x))).set 4 (.ptr 6 0)).set 3 (.pv (i64 i))).set 0 (.ptr 3 0)
section
variable (R0 R1:ba) (S:PV) (nl:Bool) (sets:List Al) (rows:ba) (n:Nat) (row:List Int) (ss:List Rb) (i x:Nat) (a:Al)
 (h0:oa 7 R0=some R0) (h1:oa 7 R1=some R1) (hr:oa 7 rows=some rows) (hrow:row.length=256) (hx:x < 256)
 (hi:i < sets.length) (ha:(sets.map Ih)[i]? =some (.agg [i64 a.1,u32 a.2])) (had:a.1 < 4611686018427387904)
 (hS:ri 2 S (ss.map Fe)) (hw:ss.length≤maxLen)
 (Ba:∀ i s,ss[i]? =some s→Qy a.2 i=true→a.1 < s.parts.length) (hsz:∀ s∈ss,∀ l∈s.parts,l.length * 16≤140737488355328)
include h0 h1 hr hrow hx hi ha had hS hw Ba hsz
theorem aP (hb:(eh x a.2 a.1 0 ss (0,false)).1=0):
 Jc (Ea Ca 7) [0,3,4,30] Ia 7 ⟨bm i x,vj R0 R1 S nl sets rows n [.box (Ha row)]⟩=
  some (.norm,⟨bm i (x+1:Nat),vj R0 R1 S nl sets rows n [.box (Ha (row.set x (-2)))]⟩):=by
 have e1:decide ((x:Int) < 256)=true:=Fa (by omega)
 have hlen:(sets.map Ih).length=sets.length:=by simp
 have hq:Ga (i:Int) sets.length:=by unfold Ga;omega
 have hq2:Ga (x:Int) 256:=by unfold Ga;omega
 have t1:((i:Int)).toNat=i:=by simp
 have t3:((x:Int)).toNat=x:=by simp
 have t2:=Ya (i:=x) (n:=256) hx (by unfold maxLen;omega)
 have hbeh:=Lp (Ea Ca 6) (vj R0 R1 S nl sets rows n [.box (Ha row)]) 3 _ S ss x a.2 a.1 rfl hS hw had Ba hsz
 rw[hb] at hbeh
 have hle:x+1≤(Ha row).length:=by rw[gb];omega
 have hz:(((0:Nat)+x+1)≤(Ha row).length)=True:=by simp only[eq_iff_iff,iff_true];omega
 simp only[vj,List.cons_append,List.nil_append] at hbeh
 generalize (eh x a.2 a.1 0 ss (0,false)).2=ends at *
 simp -implicitDefEqProofs only[SP,SA,SQ,sevalprocAttr,Jc,fa,Ia,Ca,e1,hlen,eq_true hq,eq_true hq2,t1,t2,t3,ha,hbeh,hz,eq_true hle,Ui,wa,ga,Aa,Am,jm,Km,Ja,Fp,AV.cut,vc,h0,h1,hr,bm,vj]
theorem NS (hb:(eh x a.2 a.1 0 ss (0,false)).1≠0) (hb2:(eh x a.2 a.1 0 ss (0,false)).2=true):
 Jc (Ea Ca 7) [0,3,4,30] Ia 7 ⟨bm i x,vj R0 R1 S nl sets rows n [.box (Ha row)]⟩=
  some (.norm,⟨bm i (x+1:Nat),vj R0 R1 S nl sets rows n [.box (Ha (row.set x (-1)))]⟩):=by
 have e1:decide ((x:Int) < 256)=true:=Fa (by omega)
 have hlen:(sets.map Ih).length=sets.length:=by simp
 have hq:Ga (i:Int) sets.length:=by unfold Ga;omega
 have hq2:Ga (x:Int) 256:=by unfold Ga;omega
 have t1:((i:Int)).toNat=i:=by simp
 have t3:((x:Int)).toNat=x:=by simp
 have t2:=Ya (i:=x) (n:=256) hx (by unfold maxLen;omega)
 have hbeh:=Lp (Ea Ca 6) (vj R0 R1 S nl sets rows n [.box (Ha row)]) 3 _ S ss x a.2 a.1 rfl hS hw had Ba hsz
 rw[hb2] at hbeh
 have hle:x+1≤(Ha row).length:=by rw[gb];omega
 have hz:(((0:Nat)+x+1)≤(Ha row).length)=True:=by simp only[eq_iff_iff,iff_true];omega
 simp only[vj,List.cons_append,List.nil_append] at hbeh
 have e4:=Zh hb
 generalize (eh x a.2 a.1 0 ss (0,false)).1=left at *
 simp -implicitDefEqProofs only[SP,SA,SQ,sevalprocAttr,Jc,fa,Ia,Ca,e1,hlen,eq_true hq,eq_true hq2,t1,t2,t3,ha,hbeh,e4,hz,eq_true hle,Ui,wa,ga,Aa,Am,jm,Km,Ja,Fp,AV.cut,vc,h0,h1,hr,bm,vj]
theorem rT (hb:(eh x a.2 a.1 0 ss (0,false)).1≠0) (hb2:(eh x a.2 a.1 0 ss (0,false)).2=false) {k:Nat} (hk:Ll (a.1+1,(eh x a.2 a.1 0 ss (0,false)).1) sets 0=some k):
 Jc (Ea Ca 7) [0,3,4,30] Ia 7 ⟨bm i x,vj R0 R1 S nl sets rows n [.box (Ha row)]⟩=
  some (.norm,⟨bm i (x+1:Nat),vj R0 R1 S nl sets rows n [.box (Ha (row.set x k))]⟩):=by
 have e1:decide ((x:Int) < 256)=true:=Fa (by omega)
 have hlen:(sets.map Ih).length=sets.length:=by simp
 have hq:Ga (i:Int) sets.length:=by unfold Ga;omega
 have hq2:Ga (x:Int) 256:=by unfold Ga;omega
 have t1:((i:Int)).toNat=i:=by simp
 have t3:((x:Int)).toNat=x:=by simp
 have t2:=Ya (i:=x) (n:=256) hx (by unfold maxLen;omega)
 have hbeh:=Lp (Ea Ca 6) (vj R0 R1 S nl sets rows n [.box (Ha row)]) 3 _ S ss x a.2 a.1 rfl hS hw had Ba hsz
 rw[hb2] at hbeh
 have hle:x+1≤(Ha row).length:=by rw[gb];omega
 have hz:(((0:Nat)+x+1)≤(Ha row).length)=True:=by simp only[eq_iff_iff,iff_true];omega
 simp only[vj,List.cons_append,List.nil_append] at hbeh
 have e4:=Zh hb
 have t5:IntKind.i64.wrap ((a.1:Int)+1)=((a.1+1:Nat):Int):=Da (by omega)
 have hmet:=QV (Ea Ca 6) R0 R1 S nl sets rows n (.box (Ha row)::zE ss) (a.1+1,(eh x a.2 a.1 0 ss (0,false)).1) hk
 simp only[vj,Ih] at hmet
 generalize (eh x a.2 a.1 0 ss (0,false)).1=left at *
 simp -implicitDefEqProofs only[SP,SA,SQ,sevalprocAttr,Jc,fa,Ia,Ca,e1,hlen,eq_true hq,eq_true hq2,t1,t2,t3,ha,hbeh,hmet,t5,e4,hz,eq_true hle,Ui,wa,ga,Aa,Am,jm,Km,Ja,Fp,AV.cut,vc,h0,h1,hr,bm,vj]
theorem CS (hb:(eh x a.2 a.1 0 ss (0,false)).1≠0) (hb2:(eh x a.2 a.1 0 ss (0,false)).2=false) (hk:Ll (a.1+1,(eh x a.2 a.1 0 ss (0,false)).1) sets 0=none) (hl:sets.length < 64):
 Jc (Ea Ca 7) [0,3,4,30] Ia 7 ⟨bm i x,vj R0 R1 S nl sets rows n [.box (Ha row)]⟩=
  some (.norm,⟨bm i (x+1:Nat),vj R0 R1 S false (sets++[(a.1+1,(eh x a.2 a.1 0 ss (0,false)).1)]) rows n [.box (Ha (row.set x (sets.length:Int)))]⟩):=by
 have e1:decide ((x:Int) < 256)=true:=Fa (by omega)
 have hlen:(sets.map Ih).length=sets.length:=by simp
 have hq:Ga (i:Int) sets.length:=by unfold Ga;omega
 have hq2:Ga (x:Int) 256:=by unfold Ga;omega
 have t1:((i:Int)).toNat=i:=by simp
 have t3:((x:Int)).toNat=x:=by simp
 have t2:=Ya (i:=x) (n:=256) hx (by unfold maxLen;omega)
 have hbeh:=Lp (Ea Ca 6) (vj R0 R1 S nl sets rows n [.box (Ha row)]) 3 _ S ss x a.2 a.1 rfl hS hw had Ba hsz
 rw[hb2] at hbeh
 have hle:x+1≤(Ha row).length:=by rw[gb];omega
 have hz:(((0:Nat)+x+1)≤(Ha row).length)=True:=by simp only[eq_iff_iff,iff_true];omega
 simp only[vj,List.cons_append,List.nil_append] at hbeh
 have e4:=Zh hb
 have t5:IntKind.i64.wrap ((a.1:Int)+1)=((a.1+1:Nat):Int):=Da (by omega)
 have hmet:=SM (Ea Ca 6) R0 R1 S nl sets rows n (.box (Ha row)::zE ss) (a.1+1,(eh x a.2 a.1 0 ss (0,false)).1) hk hl
 simp only[vj,Ih] at hmet ⊢
 generalize (eh x a.2 a.1 0 ss (0,false)).1=left at *
 simp -implicitDefEqProofs only[SP,SA,SQ,sevalprocAttr,Jc,fa,Ia,Ca,e1,hlen,eq_true hq,eq_true hq2,t1,t2,t3,ha,hbeh,hmet,t5,e4,hz,eq_true hle,Ui,wa,ga,Aa,Am,jm,Km,Ja,Fp,AV.cut,vc,h0,h1,hr,bm,vj]
end
section
variable (R0 R1:ba) (S:PV) (nl:Bool) (sets:List Al) (rows:ba) (n:Nat) (row:List Int) (ss:List Rb) (i x:Nat) (a:Al)
 (hrow:row.length=256) (hx:x < 256)
 (hi:i < sets.length) (ha:(sets.map Ih)[i]? =some (.agg [i64 a.1,u32 a.2])) (had:a.1 < 4611686018427387904)
 (hS:ri 2 S (ss.map Fe)) (hw:ss.length≤maxLen)
 (Ba:∀ i s,ss[i]? =some s→Qy a.2 i=true→a.1 < s.parts.length) (hsz:∀ s∈ss,∀ l∈s.parts,l.length * 16≤140737488355328)
include hrow hx hi ha had hS hw Ba hsz
theorem RO (hb:(eh x a.2 a.1 0 ss (0,false)).1≠0) (hb2:(eh x a.2 a.1 0 ss (0,false)).2=false) (hk:Ll (a.1+1,(eh x a.2 a.1 0 ss (0,false)).1) sets 0=none) (hl:sets.length=64):
 Ht 2 (.pv (.bool false)) R0 (Jc (Ea Ca 7) [0,3,4,30] Ia 7 ⟨bm i x,vj R0 R1 S nl sets rows n [.box (Ha row)]⟩):=by
 have e1:decide ((x:Int) < 256)=true:=Fa (by omega)
 have hlen:(sets.map Ih).length=sets.length:=by simp
 have hq:Ga (i:Int) sets.length:=by unfold Ga;omega
 have hq2:Ga (x:Int) 256:=by unfold Ga;omega
 have t1:((i:Int)).toNat=i:=by simp
 have t3:((x:Int)).toNat=x:=by simp
 have t2:=Ya (i:=x) (n:=256) hx (by unfold maxLen;omega)
 have hbeh:=Lp (Ea Ca 6) (vj R0 R1 S nl sets rows n [.box (Ha row)]) 3 _ S ss x a.2 a.1 rfl hS hw had Ba hsz
 rw[hb2] at hbeh
 have hle:x+1≤(Ha row).length:=by rw[gb];omega
 have hz:(((0:Nat)+x+1)≤(Ha row).length)=True:=by simp only[eq_iff_iff,iff_true];omega
 simp only[vj,List.cons_append,List.nil_append] at hbeh
 have e4:=Zh hb
 have t5:IntKind.i64.wrap ((a.1:Int)+1)=((a.1+1:Nat):Int):=Da (by omega)
 have hmet:=eS (Ea Ca 6) R0 R1 S nl sets rows n (.box (Ha row)::zE ss) (a.1+1,(eh x a.2 a.1 0 ss (0,false)).1) hk hl
 simp only[vj,Ih] at hmet
 generalize (eh x a.2 a.1 0 ss (0,false)).1=left at *
 simp -implicitDefEqProofs only[SP,SA,SQ,sevalprocAttr,Jc,fa,Ia,Ca,e1,hlen,eq_true hq,eq_true hq2,t1,t2,t3,ha,hbeh,hmet,t5,e4,RB,hz,eq_true hle,Ui,wa,bm,vj]
end
end Go.AM.B1
namespace Go.AM.B1
open Go.AM
def Ak (ss:List Rb) (a:Al):List Nat→List Al×List Int→Option (List Al×List Int)
 | [],r=>some r
 |x::xs,r=>match wg ss a x r.1 with
  |some p=>Ak ss a xs (p.1,r.2.set x p.2)
  |none=>none
theorem Pr {ss:List Rb} {a:Al} {x:Nat} {xs:List Nat} {r:List Al×List Int} (h:wg ss a x r.1=none):Ak ss a (x::xs) r=none:=by
 rw[Ak,h]
theorem js {ss:List Rb} {a:Al} {x:Nat} {xs:List Nat} {r:List Al×List Int} {p:List Al×Int} (h:wg ss a x r.1=some p):Ak ss a (x::xs) r=Ak ss a xs (p.1,r.2.set x p.2):=by
 rw[Ak,h]
theorem Jp {n x:Nat} (h:x < n):(List.range n).drop x=x::(List.range n).drop (x+1):=by
 rw[List.drop_eq_getElem_cons (by simpa using h)];simp
theorem fB {ss:List Rb} {a:Al} {x:Int} {sets:List Al} {r:List Al×Int} (h:wg ss a x sets=some r) (hl:sets.length≤64):r.1.length≤64∧∃ t,r.1=sets++t:=by
 unfold wg at h
 split at h
 ·injection h with h;subst h;exact⟨hl,[],by simp⟩
 ·split at h
  ·injection h with h;subst h;exact⟨hl,[],by simp⟩
  ·split at h
   ·injection h with h;subst h;exact⟨hl,[],by simp⟩
   ·split at h
    ·injection h with h;subst h;exact⟨by simp;omega,_,rfl⟩
    ·cases h
section
variable (R0 R1:ba) (S:PV) (rows:ba) (n:Nat) (ss:List Rb)
 (h0:oa 7 R0=some R0) (h1:oa 7 R1=some R1) (hr:oa 7 rows=some rows)
 (hS:ri 2 S (ss.map Fe)) (hw:ss.length≤maxLen)
 (hsz:∀ s∈ss,∀ l∈s.parts,l.length * 16≤140737488355328)
include h0 h1 hr hS hw hsz
theorem HM {nl:Bool} {sets:List Al} {row:List Int} {i x:Nat} {a:Al} (hrow:row.length=256) (hx:x < 256) (ha:sets[i]? =some a) (had:a.1 < 4611686018427387904) (hl:sets.length≤64)
 (Ba:∀ i s,ss[i]? =some s→Qy a.2 i=true→a.1 < s.parts.length):
 (∀ r,wg ss a x sets=some r→∃ nl',Jc (Ea Ca 7) [0,3,4,30] Ia 7 ⟨bm i x,vj R0 R1 S nl sets rows n [.box (Ha row)]⟩=
  some (.norm,⟨bm i (x+1:Nat),vj R0 R1 S nl' r.1 rows n [.box (Ha (row.set x r.2))]⟩))∧
 (wg ss a x sets=none→Ht 2 (.pv (.bool false)) R0 (Jc (Ea Ca 7) [0,3,4,30] Ia 7 ⟨bm i x,vj R0 R1 S nl sets rows n [.box (Ha row)]⟩)):=by
 have hi:i < sets.length:=(List.getElem?_eq_some_iff.1 ha).1
 have ha':(sets.map Ih)[i]? =some (.agg [i64 a.1,u32 a.2]):=by rw[List.getElem?_map,ha];rfl
 by_cases hb:(eh x a.2 a.1 0 ss (0,false)).1=0
 ·have hst:=(show wg ss a x sets=some (sets,-2) by unfold wg;rw[if_pos hb])
  rw[hst]
  exact⟨fun r e=>by injection e with e;subst e;exact⟨nl,aP R0 R1 S nl sets rows n row ss i x a h0 h1 hr hrow hx hi ha' had hS hw Ba hsz hb⟩,fun e=>by cases e⟩
 by_cases hb2:(eh x a.2 a.1 0 ss (0,false)).2=true
 ·have hst:=(show wg ss a x sets=some (sets,-1) by unfold wg;rw[if_neg hb,if_pos hb2])
  rw[hst]
  exact⟨fun r e=>by injection e with e;subst e;exact⟨nl,NS R0 R1 S nl sets rows n row ss i x a h0 h1 hr hrow hx hi ha' had hS hw Ba hsz hb hb2⟩,fun e=>by cases e⟩
 have hb3:(eh x a.2 a.1 0 ss (0,false)).2=false:=by simpa using hb2
 cases hk:Ll (a.1+1,(eh x a.2 a.1 0 ss (0,false)).1) sets 0 with
 |some k=>
  have hst:=(show wg ss a x sets=some (sets,(k:Int)) by unfold wg;rw[if_neg hb,if_neg hb2,hk])
  rw[hst]
  exact⟨fun r e=>by injection e with e;subst e;exact⟨nl,rT R0 R1 S nl sets rows n row ss i x a h0 h1 hr hrow hx hi ha' had hS hw Ba hsz hb hb3 hk⟩,fun e=>by cases e⟩
 |none=>
  by_cases hlt:sets.length < 64
  ·have hst:=(show wg ss a x sets=some (sets++[(a.1+1,(eh x a.2 a.1 0 ss (0,false)).1)],(sets.length:Int)) by unfold wg;rw[if_neg hb,if_neg hb2,hk];simp only[if_pos hlt])
   rw[hst]
   exact⟨fun r e=>by injection e with e;subst e;exact⟨false,CS R0 R1 S nl sets rows n row ss i x a h0 h1 hr hrow hx hi ha' had hS hw Ba hsz hb hb3 hk hlt⟩,fun e=>by cases e⟩
  ·have hst:=(show wg ss a x sets=none by unfold wg;rw[if_neg hb,if_neg hb2,hk];simp only[if_neg hlt])
   rw[hst]
   exact⟨fun r e=>(by cases e),fun _=>RO R0 R1 S nl sets rows n row ss i x a hrow hx hi ha' had hS hw Ba hsz hb hb3 hk (by omega)⟩
theorem DS {nl:Bool} {sets:List Al} {row:List Int} {i:Nat} {a:Al} (hrow:row.length=256) (ha:sets[i]? =some a) (had:a.1 < 4611686018427387904) (hl:sets.length≤64)
 (Ba:∀ i s,ss[i]? =some s→Qy a.2 i=true→a.1 < s.parts.length):
 (∀ r,Ak ss a (List.range 256) (sets,row)=some r→∃ nl',qb (fa (pa (Ea Ca 7) Ia) (ga 7 [0,3,4,30])) qa ⟨bm i 0,vj R0 R1 S nl sets rows n [.box (Ha row)]⟩=
  some (.exit 2,⟨(bm i 256).set 31 (.pv (.bool false)),vj R0 R1 S nl' r.1 rows n [.box (Ha r.2)]⟩)∧r.1.length≤64∧r.2.length=256∧∃ t,r.1=sets++t)∧
 (Ak ss a (List.range 256) (sets,row)=none→Ht 2 (.pv (.bool false)) R0 (qb (fa (pa (Ea Ca 7) Ia) (ga 7 [0,3,4,30])) qa ⟨bm i 0,vj R0 R1 S nl sets rows n [.box (Ha row)]⟩)):=by
 generalize hxs:List.range 256=xs
 have key:=sk (g:=Jc (Ea Ca 7) [0,3,4,30] Ia 7)
  (fun x t=>∃ nl' sets' row',t=⟨bm i x,vj R0 R1 S nl' sets' rows n [.box (Ha row')]⟩∧Ak ss a xs (sets,row)=Ak ss a (xs.drop x) (sets',row')∧sets'.length≤64∧row'.length=256∧∃ t,sets'=sets++t)
  (fun ex t=>(∃ r,ex= .exit 2∧Ak ss a xs (sets,row)=some r∧∃ nl',t=⟨(bm i 256).set 31 (.pv (.bool false)),vj R0 R1 S nl' r.1 rows n [.box (Ha r.2)]⟩∧r.1.length≤64∧r.2.length=256∧∃ t,r.1=sets++t)∨
   (ex= .ret∧Ak ss a xs (sets,row)=none∧t.env.get 2= .pv (.bool false)∧t.H[0]? =some R0))
  qa 256 0 ⟨bm i (0:Nat),vj R0 R1 S nl sets rows n [.box (Ha row)]⟩ (by unfold qa;omega) (by omega) ⟨nl,sets,row,rfl,rfl,hl,hrow,[],by simp⟩ ?_ ?_
 ·obtain⟨ex,t,h,_,hq⟩:=key
  have h':qb (fa (pa (Ea Ca 7) Ia) (ga 7 [0,3,4,30])) qa ⟨bm i 0,vj R0 R1 S nl sets rows n [.box (Ha row)]⟩=some (ex,t):=h
  rw[h']
  rcases hq with⟨r,rfl,hr',nl',rfl,q1,q2,q3⟩ | ⟨rfl,hr',hg,hg2⟩
  ·refine⟨fun r2 e=> ?_,fun e=> ?_⟩
   ·rw[hr'] at e;injection e with e;subst e;exact⟨nl',rfl,q1,q2,q3⟩
   ·rw[hr'] at e;cases e
  ·refine⟨fun r2 e=> ?_,fun _=> .mk _ hg hg2⟩
   rw[hr'] at e;cases e
 ·rintro x hx t ⟨nl',sets',row',rfl,hrs,hl',hrow',tl,hts⟩
  have ha':sets'[i]? =some a:=by
   rw[hts,List.getElem?_append_left (List.getElem?_eq_some_iff.1 ha).1];exact ha
  have hd:=Jp hx
  rw[hxs] at hd
  have hsr:=HM R0 R1 S rows n ss h0 h1 hr hS hw hsz (nl:=nl') hrow' hx ha' had hl' Ba
  rw[hd] at hrs
  cases hst:wg ss a x sets' with
  |none=>
   rw[Pr hst] at hrs
   obtain⟨t,g1,g2,g3⟩:=xq (hsr.2 hst)
   exact .inr ⟨.ret,t,g1,rfl,.inr ⟨rfl,hrs,g2,g3⟩⟩
  |some r=>
   rw[js hst] at hrs
   obtain⟨nl2,g1⟩:=hsr.1 r hst
   obtain⟨k1,t2,k2⟩:=fB hst hl'
   exact .inl ⟨_,g1,nl2,r.1,row'.set x r.2,rfl,hrs,k1,by simpa using hrow',tl++t2,by rw[k2,hts,List.append_assoc]⟩
 ·rintro t ⟨nl',sets',row',rfl,hrs,hl',hrow',tl,hts⟩
  rw[List.drop_eq_nil_of_le (by rw[← hxs,List.length_range];exact Nat.le_refl _)] at hrs
  refine⟨.exit 2,_,?_,rfl,.inl ⟨(sets',row'),rfl,hrs,nl',rfl,hl',hrow',tl,hts⟩⟩
  have e1:decide (((256:Nat):Int) < 256)=false:=by decide
  simp -implicitDefEqProofs only[SP,SA,SQ,sevalprocAttr,Jc,fa,Ia,e1,bm,vj]
end
end Go.AM.B1
namespace Go.AM.B1
open Go.AM
def Jg (rs:List (List Int)):ba:= .seq 256 true (rs.flatMap Ha) 0 rs.isEmpty
theorem Gs (l:List Int):Ha l=(l.map i64).map .pv:=by simp[Ha]
theorem Ys (l:List Int):de (Ha l)=some (l.map i64):=by
 rw[Gs]
 induction l with
 |nil=>rfl
 |cons a l ih=>simp only[List.map_cons,de,ih,Option.map_some]
theorem XD (l:List Int):(Ha l).all AV.one=true:=by
 induction l with
 |nil=>rfl
 |cons a l ih=>simp only[Ha,List.map_cons,List.all_cons,AV.one,Bool.true_and] at ih ⊢;exact ih
theorem NW:List.map AV.pv (List.replicate 256 (PV.int .i64 0))=Ha (List.replicate 256 0):=by
 simp only[Ha,List.map_replicate]
theorem Hx {α:Type}:∀ (vs cs pre:List α),cs.length=vs.length→na (pre++cs) pre.length vs=pre++vs
 | [],cs,pre,h=>by simp at h;subst h;rfl
 |v::vs,c::cs,pre,h=>by
  rw[na]
  have h1:(pre++c::cs).set pre.length v=(pre++[v])++cs:=by
   rw[List.set_append_right _ _ (Nat.le_refl _)];simp
  rw[h1]
  have:=Hx vs cs (pre++[v]) (by simpa using h)
  simp only[List.length_append,List.length_cons,List.length_nil,Nat.zero_add] at this
  rw[this];simp
 |_::_,[],_,h=>by simp at h
theorem nv (n d:Nat) (rs:List (List Int)):(rs.flatMap Ha).all (AV.ze n d)=true:=by
 rw[List.all_eq_true]
 intro v hv
 rw[List.mem_flatMap] at hv
 obtain⟨r,_,hv⟩:=hv
 simp only[Ha,List.mem_map] at hv
 obtain⟨x,_,rfl⟩:=hv
 cases d <;> rfl
theorem mC:∀ {rs:List (List Int)},(∀ r∈rs,r.length=256)→(rs.flatMap Ha).length=rs.length * 256
 | [],_=>rfl
 |r::rs,h=>by
  have:=mC (rs:=rs) (fun x hx=>h x (by simp[hx]))
  simp only[List.flatMap_cons,List.length_append,gb,h r (by simp),this,List.length_cons]
  omega
abbrev Fz (i:Int):Tr:=(Tr.lf.set 3 (.pv (i64 i))).set 0 (.ptr 3 0)
section
variable (R0 R1:ba) (S:PV) (nl:Bool) (sets:List Al) (rs:List (List Int)) (ss:List Rb) (i:Nat)
 (h0:oa 7 R0=some R0) (h1:oa 7 R1=some R1) (g0:oa 6 R0=some R0) (g1:oa 6 R1=some R1)
 (hi:i < sets.length) (hl:sets.length≤64) (hrl:rs.length≤64) (hrr:∀ r∈rs,r.length=256)
include h0 h1 g0 g1 hi hl hrl hrr
theorem MO (nl':Bool) (sets':List Al) (row:List Int) (hrow:row.length=256)
 (hrowL:qb (fa (pa (Ea Ca 7) Ia) (ga 7 [0,3,4,30])) qa ⟨bm i 0,vj R0 R1 S nl sets (Jg rs) rs.length [.box (Ha (List.replicate 256 0))]⟩=
  some (.exit 2,⟨(bm i 256).set 31 (.pv (.bool false)),vj R0 R1 S nl' sets' (Jg rs) rs.length [.box (Ha row)]⟩)):
 Jc (Ea Ca 7) [0,3] xb 6 ⟨Fz i,vj R0 R1 S nl sets (Jg rs) rs.length []⟩=
  some (.norm,⟨Fz (i+1:Nat),vj R0 R1 S nl' sets' (Jg (rs++[row])) (rs.length+1) []⟩):=by
 have hlen:(sets.map Ih).length=sets.length:=by simp
 have e1:decide ((i:Int) < (sets.length:Int))=true:=Fa (by omega)
 have t2:=Ya (i:=i) (n:=64) (by omega) (by unfold maxLen;omega)
 have p0:((Ha row).length=256)=True:=by rw[gb,hrow];exact eq_self _
 have p1:(256≤(Ha row).length)=True:=by rw[gb,hrow];exact eq_true (Nat.le_refl _)
 have p2:List.take 256 (Ha row)=Ha row:=List.take_of_length_le (by rw[gb,hrow];exact Nat.le_refl _)
 have p3:=Ys row
 have p4:((row.map i64).length=256)=True:=by rw[List.length_map,hrow];exact eq_self _
 have p5:(256≤(Ha (List.replicate 256 0)).length)=True:=by rw[gb,List.length_replicate];exact eq_true (Nat.le_refl _)
 have p6:na (Ha (List.replicate 256 0)) 0 (Ha row)=Ha row:=by
  have:=Hx (Ha row) (Ha (List.replicate 256 0)) [] (by rw[gb,gb,hrow,List.length_replicate])
  rw[List.nil_append,List.nil_append] at this;exact this
 have p7:=XD row
 have p8:List.take 256 (row.map i64)=row.map i64:=List.take_of_length_le (by rw[List.length_map,hrow];exact Nat.le_refl _)
 have p9:(row.map i64).map AV.pv=Ha row:=(Gs row).symm
 have q1:(rs.length * 256=(rs.flatMap Ha).length)=True:=by rw[mC hrr];exact eq_self _
 have q2:mb (rs.length+1) 2048:=by unfold mb;omega
 have q3:(rs++[row]).flatMap Ha=rs.flatMap Ha++Ha row:=by rw[List.flatMap_append,List.flatMap_cons,List.flatMap_nil,List.append_nil]
 have q4:(rs++[row]).isEmpty=false:=by cases rs <;> rfl
 have q5:=nv 7 6 rs
 have q6:=nv 6 6 (rs++[row])
 rw[q3] at q6
 simp only[bm,vj,Jg,Int.cast_ofNat_Int] at hrowL
 unfold vj Jg
 rw[q3,q4]
 have hz2:=NW
 generalize hz:List.replicate 256 (0:Int)=zs at *
 simp -implicitDefEqProofs only[SP,SA,SQ,sevalprocAttr,-List.reduceReplicate,Jc,fa,xb,hlen,e1,Bb,ga,Aa,Am,jm,Km,Ms,Ja,Fp,AV.cut,vc,h0,h1,g0,g1,Fz,hz2,q5]
 rw[hrowL]
 simp -implicitDefEqProofs only[SP,SA,SQ,sevalprocAttr,-List.reduceReplicate,List.append_nil,hlen,t2,p0,p1,p2,p3,p4,p5,p6,p7,p8,p9,q1,eq_true q2,q5,q6,Yh,AV.EB,AV.bo,hz2,jj,ga,Aa,Am,jm,Km,Ms,Ja,Fp,AV.cut,vc,h0,h1,g0,g1]
end
end Go.AM.B1
namespace Go.AM.B1
open Go.AM
theorem wrap_u32 {n:Nat} (h:n < 4294967296):IntKind.u32.wrap (n:Int)=(n:Int):=by
 have e:IntKind.u32.wrap (n:Int)=(n:Int) % 4294967296:=by
  simp[IntKind.signed,IntKind.wrap,IntKind.bits]
 rw[e];omega
theorem nT {a b:Nat} (ha:a < 4294967296) (hb:b < 4294967296):(BitVec.ofInt IntKind.u32.bits (a:Int) &&& BitVec.ofInt IntKind.u32.bits (b:Int)).toNat=a &&& b:=by
 show (BitVec.ofInt 32 (a:Int) &&& BitVec.ofInt 32 (b:Int)).toNat=_
 rw[BitVec.toNat_and,BitVec.ofInt_natCast,BitVec.ofInt_natCast,BitVec.toNat_ofNat,BitVec.toNat_ofNat,Nat.mod_eq_of_lt ha,Nat.mod_eq_of_lt hb]
theorem yV {a b:Nat} (ha:a < 4294967296) (hb:b < 4294967296):(BitVec.ofInt IntKind.u32.bits (a:Int) ||| BitVec.ofInt IntKind.u32.bits (b:Int)).toNat=a ||| b:=by
 show (BitVec.ofInt 32 (a:Int) ||| BitVec.ofInt 32 (b:Int)).toNat=_
 rw[BitVec.toNat_or,BitVec.ofInt_natCast,BitVec.ofInt_natCast,BitVec.toNat_ofNat,BitVec.toNat_ofNat,Nat.mod_eq_of_lt ha,Nat.mod_eq_of_lt hb]
theorem rI {n i:Nat} (hn:n < 4294967296) (hi:i < 32):Qy (n:Int) i=n.testBit i:=by
 have hm:min i IntKind.u32.bits=i:=by show min i 32=i;omega
 have hf:(n:Int).fdiv (2 ^ i)=((n / 2 ^ i:Nat):Int):=by
  rw[show ((2:Int) ^ i)=((2 ^ i:Nat):Int) by push_cast;rfl]
  exact (Int.ofNat_fdiv n (2 ^ i)).symm
 have hle:n / 2 ^ i < 4294967296:=Nat.lt_of_le_of_lt (Nat.div_le_self _ _) hn
 have e:(BitVec.ofInt IntKind.u32.bits ((n / 2 ^ i:Nat):Int) &&& BitVec.ofInt IntKind.u32.bits 1).toNat=n / 2 ^ i % 2:=by
  have:=nT hle (show 1 < 4294967296 by decide)
  rw[Nat.and_one_is_mod] at this
  exact this
 unfold Qy
 rw[hm,hf,e,wrap_u32 (by omega),Nat.testBit_eq_decide_div_mod_eq]
 rcases Nat.mod_two_eq_zero_or_one (n / 2 ^ i) with h | h <;> rw[h] <;> rfl
theorem GV {n i:Nat} (hn:n < 4294967296) (hi:i < 32):KX (n:Int) i=((n ||| 2 ^ i:Nat):Int):=by
 have hm:min i IntKind.u32.bits=i:=by show min i 32=i;omega
 have hp:2 ^ i < 4294967296:=by
  have:(2:Nat) ^ i < 2 ^ 32:=Nat.pow_lt_pow_right (by decide) hi
  simpa using this
 have h2:IntKind.u32.wrap (1 * 2 ^ i)=((2 ^ i:Nat):Int):=by
  rw[Int.one_mul,show ((2:Int) ^ i)=((2 ^ i:Nat):Int) by push_cast;rfl,wrap_u32 hp]
 unfold KX
 rw[hm,h2,yV hn hp,wrap_u32]
 exact Nat.or_lt_two_pow (n:=32) hn hp
def Es (x:Int) (bits d:Nat):Nat→List Rb→Nat×Bool→Nat×Bool
 |_,[],acc=>acc
 |i,s::r,acc=>Es x bits d (i+1) r (if bits.testBit i&&Ws s d x then (acc.1 ||| 2 ^ i,acc.2||(s.parts.length==d+1)) else acc)
theorem wG {x:Int} {bits d:Nat}:∀ (ss:List Rb) (i:Nat) (acc:Nat×Bool),i+ss.length≤32→acc.1 < 4294967296→(Es x bits d i ss acc).1 < 4294967296
 | [],i,acc,_,h=>h
 |s::r,i,acc,hl,h=>by
  rw[Es]
  refine wG r (i+1) _ (by simp only[List.length_cons] at hl;omega) ?_
  split
  ·refine Nat.or_lt_two_pow (n:=32) h ?_
   exact Nat.pow_lt_pow_right (by decide) (by simp only[List.length_cons] at hl;omega)
  ·exact h
theorem pM {x:Int} {bits d:Nat} (hb:bits < 4294967296):∀ (ss:List Rb) (i:Nat) (acc:Nat×Bool),i+ss.length≤32→acc.1 < 4294967296→
 eh x (bits:Int) d i ss ((acc.1:Int),acc.2)=(((Es x bits d i ss acc).1:Int),(Es x bits d i ss acc).2)
 | [],i,acc,_,h=>rfl
 |s::r,i,acc,hl,h=>by
  have hi:i < 32:=by simp only[List.length_cons] at hl;omega
  rw[eh,Es,rI hb hi,GV h hi]
  have h2:(acc.1 ||| 2 ^ i) < 4294967296:=Nat.or_lt_two_pow (n:=32) h (Nat.pow_lt_pow_right (by decide) hi)
  have ih:=pM (x:=x) (d:=d) hb r (i+1) (if bits.testBit i&&Ws s d x then (acc.1 ||| 2 ^ i,acc.2||(s.parts.length==d+1)) else acc)
   (by simp only[List.length_cons] at hl;omega) (by split;exact h2;exact h)
  rw[← ih]
  cases bits.testBit i&&Ws s d x <;> rfl
theorem aA {x:Int} {bits d:Nat}:∀ (ss:List Rb) (i:Nat) (acc:Nat×Bool) (j:Nat),
 (Es x bits d i ss acc).1.testBit j=(acc.1.testBit j||(decide (i≤j)&&(match ss[j - i]? with | some s=>bits.testBit j&&Ws s d x | none=>false)))
 | [],i,acc,j=>by simp[Es]
 |s::r,i,acc,j=>by
  rw[Es,aA r (i+1)]
  by_cases hij:i=j
  ·subst hij
   simp only[Nat.sub_self,List.getElem?_cons_zero,Nat.le_refl,decide_true,Bool.true_and]
   have:decide (i+1≤i)=false:=by simp
   rw[this,Bool.false_and,Bool.or_false]
   cases h:(bits.testBit i&&Ws s d x) with
   |true=>simp[Nat.testBit_or,Nat.testBit_two_pow_self]
   |false=>simp
  ·have e1:(if (bits.testBit i&&Ws s d x)=true then (acc.1 ||| 2 ^ i,acc.2||s.parts.length==d+1) else acc).1.testBit j=acc.1.testBit j:=by
    split
    ·simp only[Nat.testBit_or,Nat.testBit_two_pow_of_ne hij,Bool.or_false]
    ·rfl
   rw[e1]
   by_cases hlt:i+1≤j
   ·have e2:j - i=(j - (i+1))+1:=by omega
    have e3:decide (i≤j)=decide (i+1≤j):=by simp;omega
    rw[e2,e3,List.getElem?_cons_succ]
   ·have e3:decide (i≤j)=false:=by simp;omega
    have e4:decide (i+1≤j)=false:=by simp;omega
    rw[e3,e4];rfl
theorem cA {x:Int} {bits d:Nat}:∀ (ss:List Rb) (i:Nat) (acc:Nat×Bool),
 (Es x bits d i ss acc).2=(acc.2||(ss.zipIdx i).any fun p=>bits.testBit p.2&&Ws p.1 d x&&(p.1.parts.length==d+1))
 | [],i,acc=>by simp[Es]
 |s::r,i,acc=>by
  rw[Es,cA r (i+1),List.zipIdx_cons,List.any_cons]
  cases h:(bits.testBit i&&Ws s d x) with
  |true=>simp[Bool.or_assoc]
  |false=>simp
end Go.AM.B1
namespace Go.AM.B1
open Go.AM
def wI (ss:List Rb) (k:Nat) (a:Al):Prop:=
 a.1≤k∧∃ b:Nat,a.2=(b:Int)∧b < 4294967296∧∀ i s,ss[i]? =some s→b.testBit i=true→a.1 < s.parts.length
def Fm (ss:List Rb) (sets:List Al):Prop:=sets.length≤64∧∀ k a,sets[k]? =some a→wI ss k a
theorem wI.Ba {ss:List Rb} {k:Nat} {a:Al} (h:wI ss k a) (hl:ss.length≤32):∀ i s,ss[i]? =some s→Qy a.2 i=true→a.1 < s.parts.length:=by
 obtain⟨_,b,e,hb,h⟩:=h
 intro i s hs ht
 have hi:i < 32:=by have:=(List.getElem?_eq_some_iff.1 hs).1;omega
 rw[e,rI hb hi] at ht
 exact h i s hs ht
theorem WW {ss:List Rb} {k:Nat} {a:Al} {x:Int} (h:wI ss k a) (hl:ss.length≤32) (hf:(eh x a.2 a.1 0 ss (0,false)).2=false):
 wI ss (k+1) (a.1+1,(eh x a.2 a.1 0 ss (0,false)).1):=by
 obtain⟨hk,b,e,hb,h⟩:=h
 have hN:eh x (b:Int) a.1 0 ss (0,false)=(((Es x b a.1 0 ss (0,false)).1:Int),(Es x b a.1 0 ss (0,false)).2):=pM (x:=x) (d:=a.1) hb ss 0 (0,false) (by omega) (by decide)
 rw[e,hN] at hf
 rw[e,hN]
 have hlt:=wG (x:=x) (bits:=b) (d:=a.1) ss 0 (0,false) (by omega) (by decide)
 refine⟨Nat.succ_le_succ hk,_,rfl,hlt,?_⟩
 intro i s hs ht
 rw[aA] at ht
 simp only[Nat.zero_testBit,Nat.zero_le,decide_true,Bool.true_and,Bool.false_or,Nat.sub_zero,hs] at ht
 have hd:=h i s hs (by revert ht;cases b.testBit i <;> simp)
 have hf':(Es x b a.1 0 ss (0,false)).2=false:=hf
 rw[cA,Bool.false_or,List.any_eq_false] at hf'
 have:=hf' (s,i) (by rw[List.mk_mem_zipIdx_iff_getElem?];exact hs)
 show a.1+1 < s.parts.length
 simp only[ht,Bool.true_and] at this
 have h2:¬s.parts.length=a.1+1:=by simpa using this
 omega
theorem PB {ss:List Rb} {a:Al} {x:Int} {sets:List Al} {r:List Al×Int} {k:Nat} (hs:Fm ss sets) (ha:sets[k]? =some a) (hl:ss.length≤32) (h:wg ss a x sets=some r):
 Fm ss r.1∧∃ t,r.1=sets++t:=by
 have hk:=hs.2 k a ha
 unfold wg at h
 split at h
 ·injection h with h;subst h;exact⟨hs,[],by simp⟩
 ·split at h
  ·injection h with h;subst h;exact⟨hs,[],by simp⟩
  ·next hf=>
   split at h
   ·injection h with h;subst h;exact⟨hs,[],by simp⟩
   ·split at h
    ·next hlt=>
     injection h with h;subst h
     refine⟨⟨by simp;omega,?_⟩,_,rfl⟩
     intro j b hb
     rcases Nat.lt_or_ge j sets.length with h1 | h1
     ·rw[List.getElem?_append_left h1] at hb;exact hs.2 j b hb
     ·rw[List.getElem?_append_right h1] at hb
      cases hj:j - sets.length with
      |succ n=>rw[hj] at hb;simp at hb
      |zero=>
       rw[hj] at hb
       simp only[List.getElem?_cons_zero,Option.some.injEq] at hb
       subst hb
       have hkl:=(List.getElem?_eq_some_iff.1 ha).1
       obtain⟨g1,g2⟩:=WW hk hl (by simpa using hf)
       exact⟨Nat.le_trans g1 (by omega),g2⟩
    ·cases h
theorem ru {ss:List Rb} {a:Al} {k:Nat} (hl:ss.length≤32):∀ (xs:List Nat) (r r':List Al×List Int),Fm ss r.1→r.1[k]? =some a→Ak ss a xs r=some r'→
 Fm ss r'.1∧(∃ t,r'.1=r.1++t)∧r'.2.length=r.2.length
 | [],r,r',h,_,e=>by injection e with e;subst e;exact⟨h,⟨[],by simp⟩,rfl⟩
 |x::xs,r,r',h,ha,e=>by
  cases hst:wg ss a x r.1 with
  |none=>rw[Pr hst] at e;cases e
  |some p=>
   rw[js hst] at e
   obtain⟨g1,t,g2⟩:=PB h ha hl hst
   obtain⟨k1,⟨t',k2⟩,k3⟩:=ru hl xs (p.1,r.2.set x p.2) r' g1 (by rw[g2,List.getElem?_append_left (List.getElem?_eq_some_iff.1 ha).1];exact ha) e
   exact⟨k1,⟨t++t',by rw[k2,g2,List.append_assoc]⟩,by rw[k3];simp⟩
def eb:List Int:=List.replicate 256 0
theorem Nr:eb.length=256:=List.length_replicate
def vg (ss:List Rb):Nat→List Al×List (List Int)→Option (List Al×List (List Int))
 |0,r=>some r
 |k+1,r=>match r.1[r.2.length]? with
  |none=>some r
  |some a=>match Ak ss a (List.range 256) (r.1,eb) with
   |none=>none
   |some p=>vg ss k (p.1,r.2++[p.2])
theorem Xs {ss:List Rb} {k:Nat} {r:List Al×List (List Int)} (h:r.1[r.2.length]? =none):vg ss k r=some r:=by
 cases k with
 |zero=>rfl
 |succ k=>rw[vg,h]
theorem yu {ss:List Rb} {k:Nat} {r:List Al×List (List Int)} {a:Al} (h:r.1[r.2.length]? =some a) (h2:Ak ss a (List.range 256) (r.1,eb)=none):vg ss (k+1) r=none:=by
 rw[vg,h];simp only[h2]
theorem Bt {ss:List Rb} {k:Nat} {r:List Al×List (List Int)} {a:Al} {p:List Al×List Int} (h:r.1[r.2.length]? =some a) (h2:Ak ss a (List.range 256) (r.1,eb)=some p):vg ss (k+1) r=vg ss k (p.1,r.2++[p.2]):=by
 rw[vg,h];simp only[h2]
section
variable (R0 R1:ba) (S:PV) (nl:Bool) (sets:List Al) (rs:List (List Int)) (ss:List Rb) (i:Nat)
theorem WT (h0:oa 7 R0=some R0) (h1:oa 7 R1=some R1) (hi:i < sets.length) (hl:sets.length≤64)
 (hrowL:Ht 2 (.pv (.bool false)) R0 (qb (fa (pa (Ea Ca 7) Ia) (ga 7 [0,3,4,30])) qa ⟨bm i 0,vj R0 R1 S nl sets (Jg rs) rs.length [.box (Ha (List.replicate 256 0))]⟩)):
 Ht 2 (.pv (.bool false)) R0 (Jc (Ea Ca 7) [0,3] xb 6 ⟨Fz i,vj R0 R1 S nl sets (Jg rs) rs.length []⟩):=by
 have hlen:(sets.map Ih).length=sets.length:=by simp
 have e1:decide ((i:Int) < (sets.length:Int))=true:=Fa (by omega)
 have q5:=nv 7 6 rs
 obtain⟨t,g1,g2,g3⟩:=xq hrowL
 simp only[bm,vj,Jg,Int.cast_ofNat_Int] at g1
 unfold vj Jg
 have hz2:=NW
 generalize hz:List.replicate 256 (0:Int)=zs at *
 simp -implicitDefEqProofs only[SP,SA,SQ,sevalprocAttr,-List.reduceReplicate,Jc,fa,xb,hlen,e1,Bb,ga,Aa,Am,jm,Km,Ms,Ja,Fp,AV.cut,vc,h0,h1,Fz,hz2,q5]
 rw[g1]
 simp -implicitDefEqProofs only[SP,SA,SQ,sevalprocAttr,-List.reduceReplicate,RB,g2,g3]
theorem QI (hi:i=sets.length):
 Jc (Ea Ca 7) [0,3] xb 6 ⟨Fz i,vj R0 R1 S nl sets (Jg rs) rs.length []⟩=
  some (.exit 0,⟨(((((((Fz i).set 21 (.pv (i64 i))).set 22 (.ptr 3 0)).set 23 (.ptr 3 0)).set 24 (.ptr 3 2)).set 25 (.uq 4 nl 2 (sets.map Ih))).set 26 (.pv (i64 sets.length))).set 27 (.pv (.bool false)),vj R0 R1 S nl sets (Jg rs) rs.length []⟩):=by
 have hlen:(sets.map Ih).length=sets.length:=by simp
 have e1:decide ((i:Int) < (sets.length:Int))=false:=Ka (by omega)
 simp -implicitDefEqProofs only[SP,SA,SQ,sevalprocAttr,-List.reduceReplicate,Jc,fa,xb,hlen,e1,Fz,vj]
theorem LO (n:Nat):oa n (Jg rs)=some (Jg rs):=by
 have:(rs.flatMap Ha).all (AV.ze n deep)=true:=nv n deep rs
 unfold Jg
 rw[Ms,if_pos this]
theorem zO (h0:oa 7 R0=some R0) (h1:oa 7 R1=some R1) (g0:oa 6 R0=some R0) (g1:oa 6 R1=some R1)
 (hS:ri 2 S (ss.map Fe)) (hw:ss.length≤32) (hsz:∀ s∈ss,∀ l∈s.parts,l.length * 16≤140737488355328) (Ba:Fm ss sets) (h1s:sets.length≤1):
 (∀ r,vg ss 64 (sets,[])=some r→∃ E nl',qb (fa (pa (Ea Ca 7) xb) (ga 6 [0,3])) qa ⟨Fz 0,vj R0 R1 S nl sets (Jg []) 0 []⟩=
  some (.exit 0,⟨E,vj R0 R1 S nl' r.1 (Jg r.2) r.2.length []⟩)∧Fm ss r.1∧r.2.length=r.1.length∧∀ r'∈r.2,r'.length=256)∧
 (vg ss 64 (sets,[])=none→Ht 2 (.pv (.bool false)) R0 (qb (fa (pa (Ea Ca 7) xb) (ga 6 [0,3])) qa ⟨Fz 0,vj R0 R1 S nl sets (Jg []) 0 []⟩)):=by
 have key:=sk (g:=Jc (Ea Ca 7) [0,3] xb 6)
  (fun i t=>∃ nl' sets' rs',t=⟨Fz i,vj R0 R1 S nl' sets' (Jg rs') rs'.length []⟩∧vg ss 64 (sets,[])=vg ss (64 - i) (sets',rs')∧Fm ss sets'∧rs'.length=i∧i≤sets'.length∧∀ r∈rs',r.length=256)
  (fun ex t=>(∃ r,ex= .exit 0∧vg ss 64 (sets,[])=some r∧∃ E nl',t=⟨E,vj R0 R1 S nl' r.1 (Jg r.2) r.2.length []⟩∧Fm ss r.1∧r.2.length=r.1.length∧∀ r'∈r.2,r'.length=256)∨
   (ex= .ret∧vg ss 64 (sets,[])=none∧t.env.get 2= .pv (.bool false)∧t.H[0]? =some R0))
  qa 64 0 ⟨Fz (0:Nat),vj R0 R1 S nl sets (Jg []) 0 []⟩ (by unfold qa;omega) (by omega) ⟨nl,sets,[],rfl,rfl,Ba,rfl,by omega,by simp⟩ ?_ ?_
 ·obtain⟨ex,t,h,_,hq⟩:=key
  have h':qb (fa (pa (Ea Ca 7) xb) (ga 6 [0,3])) qa ⟨Fz 0,vj R0 R1 S nl sets (Jg []) 0 []⟩=some (ex,t):=h
  rw[h']
  rcases hq with⟨r,rfl,hr',E,nl',rfl,q1,q2,q3⟩ | ⟨rfl,hr',hg,hg2⟩
  ·refine⟨fun r2 e=> ?_,fun e=> ?_⟩
   ·rw[hr'] at e;injection e with e;subst e;exact⟨E,nl',rfl,q1,q2,q3⟩
   ·rw[hr'] at e;cases e
  ·refine⟨fun r2 e=> ?_,fun _=> .mk _ hg hg2⟩
   rw[hr'] at e;cases e
 ·rintro i hi t ⟨nl',sets',rs',rfl,hws,hok',hrl,hil,hrr⟩
  by_cases hlt:i < sets'.length
  ·obtain⟨a,ha⟩:∃ a,sets'[i]? =some a:=⟨sets'[i],by simp[hlt]⟩
   have hsa:=hok'.2 i a ha
   have hget:sets'[rs'.length]? =some a:=by rw[hrl];exact ha
   have hrow:=DS R0 R1 S (Jg rs') rs'.length ss h0 h1 (LO rs' 7) hS (by unfold maxLen;omega) hsz (nl:=nl') Nr ha (by have:=hsa.1;omega) hok'.1 (hsa.Ba hw)
   have e64:64 - i=(64 - (i+1))+1:=by omega
   cases hr:Ak ss a (List.range 256) (sets',eb) with
   |none=>
    have hst:=WT R0 R1 S nl' sets' rs' i h0 h1 hlt hok'.1 (hrow.2 hr)
    obtain⟨t,k1,k2,k3⟩:=xq hst
    rw[e64,yu (r:=(sets',rs')) hget hr] at hws
    exact .inr ⟨.ret,t,k1,rfl,.inr ⟨rfl,hws,k2,k3⟩⟩
   |some p=>
    obtain⟨nl2,k1,k2,k3,k4⟩:=hrow.1 p hr
    have hro:=ru hw _ _ _ hok' ha hr
    rw[e64,Bt (r:=(sets',rs')) hget hr] at hws
    have hsr:=MO R0 R1 S nl' sets' rs' i h0 h1 g0 g1 hlt hok'.1 (by have:=hok'.1;omega) hrr nl2 p.1 p.2 k3 k1
    refine .inl ⟨_,hsr,nl2,p.1,rs'++[p.2],by simp,hws,hro.1,by simp[hrl],?_,?_⟩
    ·obtain⟨t,ht⟩:=k4
     rw[ht];simp;omega
    ·intro r hr
     rcases List.mem_append.1 hr with h | h
     ·exact hrr r h
     ·simp at h;subst h;exact k3
  ·have hie:i=sets'.length:=by omega
   rw[Xs (r:=(sets',rs')) (by show sets'[rs'.length]? =none;rw[hrl,hie];simp)] at hws
   exact .inr ⟨.exit 0,_,QI R0 R1 S nl' sets' rs' i hie,rfl,.inl ⟨(sets',rs'),rfl,hws,_,nl',rfl,hok',by show rs'.length=sets'.length;omega,hrr⟩⟩
 ·rintro t ⟨nl',sets',rs',rfl,hws,hok',hrl,hil,hrr⟩
  have hie:64=sets'.length:=by have:=hok'.1;omega
  rw[Xs (r:=(sets',rs')) (by show sets'[rs'.length]? =none;rw[hrl,hie];simp)] at hws
  exact⟨.exit 0,_,QI R0 R1 S nl' sets' rs' 64 hie,rfl,.inl ⟨(sets',rs'),rfl,hws,_,nl',rfl,hok',by show rs'.length=sets'.length;omega,hrr⟩⟩
end
end Go.AM.B1
namespace Go.AM.B1
open Go.AM
abbrev Kh (R0 R1:ba) (S:PV) (nl nr:Bool) (fr:Nat) (sets:List Al) (C:List Int) (n:Nat) (T:List ba):List ba:=
 R0::R1:: .map (BB sets 0):: .box [.pv S,.mp 2,.uq 4 nl 2 (sets.map Ih),.own 5 n]:: .tok 2 sets.length nl:: .seq 256 true (Ha C) fr nr::T
abbrev Qh (row:List Int):PV:= .agg (row.map i64)
abbrev gz (n:Nat) (row:List Int) (i x:Int):Tr:=
 (((((Tr.lf.set 34 (.pv (i64 x))).set 33 (.pv (Qh row))).set 5 (.pv (i64 i))).set 4 (.mp 7)).set 3 (.own 6 n)).set 0 (.ptr 3 0)
section
variable (call:Ua) (R0 R1:ba) (S:PV) (nl nr nk:Bool) (fr fk:Nat) (sets:List Al) (C:List Int) (n:Nat) (oc:List Int) (M:ba) (row:List Int) (i x:Nat) (to:Int)
theorem NL (hx:x < 256) (hto:row[x]? =some to) (h:to < 0):fa (pa call ic) (fun s=>some (tidy [0,3,4,5,33,34] s)) ⟨gz n row i x,Kh R0 R1 S nl nr fr sets C n [.seq 1 false (Ha oc) fk nk,M]⟩=
 some (.norm,⟨gz n row i (x+1:Nat),Kh R0 R1 S nl nr fr sets C n [.seq 1 false (Ha oc) fk nk,M]⟩):=by
 have e1:decide ((x:Int) < 256)=true:=Fa (by omega)
 have e2:decide (to≥0)=false:=Ka (by omega)
 have hq:Ga (x:Int) 256:=by unfold Ga;omega
 have t1:((x:Int)).toNat=x:=by simp
 have t2:=Ya (i:=x) (n:=256) hx (by unfold maxLen;omega)
 have ht:(row.map i64)[x]? =some (i64 to):=by rw[List.getElem?_map,hto];rfl
 simp -implicitDefEqProofs only[SP,SA,SQ,sevalprocAttr,-List.reduceReplicate,fa,ic,e1,e2,eq_true hq,t1,t2,ht,ql,wa,tidy,xc,gz,Kh]
theorem uP (hC:C.length=n * 256) (hk:oc.length=n) (hfr:fr≤n * 256) (hfk:fk≤n) (hi:i < n) (hx:x < 256) (hto:row[x]? =some to) (h:0≤to) {v:Int} (hv:oc[to.toNat]? =some v):fa (pa call ic) (fun s=>some (tidy [0,3,4,5,33,34] s)) ⟨gz n row i x,Kh R0 R1 S nl nr fr sets C n [.seq 1 false (Ha oc) fk nk,M]⟩=
 some (.norm,⟨gz n row i (x+1:Nat),Kh R0 R1 S nl nr (n * 256) sets (C.set (i * 256+x) v) n [.seq 1 false (Ha oc) fk nk,M]⟩):=by
 have e1:decide ((x:Int) < 256)=true:=Fa (by omega)
 have e2:decide (to≥0)=true:=Fa (by omega)
 have hq:Ga (x:Int) 256:=by unfold Ga;omega
 have t1:((x:Int)).toNat=x:=by simp
 have t3:((i:Int)).toNat=i:=by simp
 have t2:=Ya (i:=x) (n:=256) hx (by unfold maxLen;omega)
 have ht:(row.map i64)[x]? =some (i64 to):=by rw[List.getElem?_map,hto];rfl
 have hv':(Ha oc)[to.toNat]? =some (.pv (i64 v)):=by rw[Ha,List.getElem?_map,hv];rfl
 have hvl:=(List.getElem?_eq_some_iff.1 hv).1
 have hq2:Ga to n:=by unfold Ga;omega
 have hq3:Ga (i:Int) n:=by unfold Ga;omega
 have w1:Jh 1 n fk (Ha oc).length:=by rw[gb];unfold Jh;omega
 have w2:Jh 256 n fr (Ha C).length:=by rw[gb];unfold Jh;omega
 have w3:((Ha oc).length=n)=True:=by rw[gb];exact eq_true hk
 have w5:(i * 256+x+1≤n * 256)=True:=eq_true (by omega)
 have w4:((Ha C).length=n * 256)=True:=by rw[gb];exact eq_true hC
 simp -implicitDefEqProofs only[SP,SA,SQ,sevalprocAttr,-List.reduceReplicate,fa,ic,e1,e2,eq_true hq,eq_true hq2,eq_true hq3,eq_true w1,eq_true w2,w3,w4,w5,t1,t2,t3,ht,hv',ql,wa,Ui,tidy,xc,gz,Kh]
def ud (oc row:List Int) (i:Nat):List Nat→List Int→List Int
 | [],C=>C
 |x::xs,C=>ud oc row i xs (match row[x]? with
  |some to=>if 0≤to then C.set (i * 256+x) (oc.getD to.toNat 0) else C
  |none=>C)
theorem Yl (oc row:List Int) (i:Nat):∀ (xs:List Nat) (C:List Int),(ud oc row i xs C).length=C.length
 | [],C=>rfl
 |x::xs,C=>by
  rw[ud,Yl oc row i xs]
  split
  ·split <;> simp
  ·rfl
theorem KI (hC:C.length=n * 256) (hk:oc.length=n) (hfr:fr=0∨fr=n * 256) (hfk:fk≤n) (hi:i < n) (hrow:row.length=256) (hto:∀ to∈row,to < n):
 ∃ fr',(fr'=0∨fr'=n * 256)∧qb (fa (pa call ic) (fun s=>some (tidy [0,3,4,5,33,34] s))) qa ⟨gz n row i 0,Kh R0 R1 S nl nr fr sets C n [.seq 1 false (Ha oc) fk nk,M]⟩=
  some (.exit 2,⟨(gz n row i 256).set 35 (.pv (.bool false)),Kh R0 R1 S nl nr fr' sets (ud oc row i (List.range 256) C) n [.seq 1 false (Ha oc) fk nk,M]⟩):=by
 generalize hxs:List.range 256=xs
 have key:=sk (g:=fa (pa call ic) (fun s=>some (tidy [0,3,4,5,33,34] s)))
  (fun x t=>∃ fr' C',(fr'=0∨fr'=n * 256)∧C'.length=n * 256∧t=⟨gz n row i x,Kh R0 R1 S nl nr fr' sets C' n [.seq 1 false (Ha oc) fk nk,M]⟩∧ud oc row i xs C=ud oc row i (xs.drop x) C')
  (fun ex t=>∃ fr',(fr'=0∨fr'=n * 256)∧ex= .exit 2∧t=⟨(gz n row i 256).set 35 (.pv (.bool false)),Kh R0 R1 S nl nr fr' sets (ud oc row i xs C) n [.seq 1 false (Ha oc) fk nk,M]⟩)
  qa 256 0 ⟨gz n row i (0:Nat),Kh R0 R1 S nl nr fr sets C n [.seq 1 false (Ha oc) fk nk,M]⟩ (by unfold qa;omega) (by omega) ⟨fr,C,hfr,hC,rfl,rfl⟩ ?_ ?_
 ·obtain⟨ex,t,h,_,fr',q1,rfl,rfl⟩:=key
  exact⟨fr',q1,h⟩
 ·rintro x hx t ⟨fr',C',hf',hC',rfl,hl⟩
  have hd:=Jp hx
  rw[hxs] at hd
  rw[hd] at hl
  obtain⟨to,ht⟩:∃ to,row[x]? =some to:=⟨row[x],by simp[hrow,hx]⟩
  have hlt:=hto to (List.mem_of_getElem? ht)
  by_cases h0:0≤to
  ·obtain⟨v,hv⟩:∃ v,oc[to.toNat]? =some v:=⟨oc[to.toNat]'(by omega),by rw[List.getElem?_eq_getElem]⟩
   refine .inl ⟨_,uP call R0 R1 S nl nr nk fr' fk sets C' n oc M row i x to hC' hk (by omega) hfk hi hx ht h0 hv,n * 256,_,.inr rfl,by simpa using hC',rfl,?_⟩
   rw[hl,ud,ht]
   have:oc.getD to.toNat 0=v:=by simp[hv]
   simp only[if_pos h0,this]
  ·refine .inl ⟨_,NL call R0 R1 S nl nr nk fr' fk sets C' n oc M row i x to hx ht (by omega),fr',C',hf',hC',rfl,?_⟩
   rw[hl,ud,ht]
   simp only[if_neg h0]
 ·rintro t ⟨fr',C',hf',hC',rfl,hl⟩
  rw[List.drop_eq_nil_of_le (by rw[← hxs,List.length_range];exact Nat.le_refl _)] at hl
  refine⟨.exit 2,_,?_,rfl,fr',hf',rfl,rfl⟩
  rw[hl]
  have e1:decide (((256:Nat):Int) < 256)=false:=by decide
  simp -implicitDefEqProofs only[SP,SA,SQ,sevalprocAttr,-List.reduceReplicate,fa,ic,e1,gz,Kh,ud]
end
theorem Mz:∀ (a b:List Int),a.length=b.length→Th (List.replicate a.length 1) (a.map i64) (b.map i64)=some (decide (a=b))
 | [],[],_=>rfl
 |x::a,y::b,h=>by
  have ih:=Mz a b (by simpa using h)
  simp only[List.length_cons,List.replicate_succ,List.map_cons,Th,Up,if_true,Option.bind_some,ih,Option.map_some,List.cons.injEq,Bool.decide_and]
  congr 2
 | [],_::_,h=>by cases h
 |_::_,[],h=>by cases h
def Zr (M:List (List Int×Int)):List (PV×PV):=M.map fun p=>(Qh p.1,i64 p.2)
theorem SO (M:List (List Int×Int)) (p:List Int×Int):Zr (M++[p])=Zr M++[(Qh p.1,i64 p.2)]:=by simp[Zr]
def Wj (a:List Int):List (List Int×Int)→Option Int
 | []=>none
 |p::r=>if a=p.1 then some p.2 else Wj a r
theorem rJ {a:List Int} (ha:a.length=256):∀ (M:List (List Int×Int)) (j:Nat),(∀ p∈M,p.1.length=256)→
 (∀ v,Wj a M=some v→∃ k,Nl (.row (List.replicate 256 1)) (Qh a) (Zr M) j=some (some (k,i64 v)))∧(Wj a M=none→Nl (.row (List.replicate 256 1)) (Qh a) (Zr M) j=some none)
 | [],j,_=>⟨fun v h=>(by cases h),fun _=>rfl⟩
 |p::r,j,hp=>by
  have he:=Mz a p.1 (by rw[ha,hp p (by simp)])
  rw[ha] at he
  have ih:=rJ ha r (j+1) (fun q hq=>hp q (by simp[hq]))
  have hk:rk (.row (List.replicate 256 1)) (Qh a) (Qh p.1)=some (decide (a=p.1)):=he
  rw[show Zr (p::r)=(Qh p.1,i64 p.2)::Zr r from rfl,Nl,hk,Option.bind_some,Wj]
  by_cases h:a=p.1
  ·rw[if_pos h,decide_eq_true h]
   exact⟨fun v e=>(by injection e with e;subst e;exact⟨j,rfl⟩),fun e=>(by cases e)⟩
  ·rw[if_neg h,decide_eq_false h]
   exact ih
theorem qM {a:List Int} (ha:a.length=256):(rk (.row (List.replicate 256 1)) (Qh a) (Qh a)).isSome=true:=by
 have he:=Mz a a rfl
 rw[ha] at he
 show (Th _ _ _).isSome=true
 rw[he];rfl
def Ta (C:List Int) (i:Nat):List Int:=(C.drop (i * 256)).take 256
theorem uh {C:List Int} {n i:Nat} (hC:C.length=n * 256) (hi:i < n):(Ta C i).length=256:=by
 unfold Ta;rw[List.length_take,List.length_drop,hC];omega
theorem LD (C:List Int) (i:Nat):de (List.take 256 (List.drop (i * 256) (Ha C)))=some ((Ta C i).map i64):=by
 have:List.take 256 (List.drop (i * 256) (Ha C))=Ha (Ta C i):=by unfold Ta Ha;rw[List.map_take,List.map_drop]
 rw[this,Ys]
structure fJ where
 C:List Int
 oc:List Int
 M:List (List Int×Int)
def wk (i:Nat) (s:fJ):fJ:=
 let C:=ud s.oc (Ta s.C i) i (List.range 256) s.C
 match Wj (Ta C i) s.M with
 |some v=>⟨C,s.oc.set i v,s.M⟩
 |none=>⟨C,s.oc.set i i,s.M++[(Ta C i,(i:Int))]⟩
def nj:Nat→fJ→fJ
 |0,s=>s
 |i+1,s=>nj i (wk i s)
theorem yr {i:Nat} {s:fJ} {v:Int} (h:Wj (Ta (ud s.oc (Ta s.C i) i (List.range 256) s.C) i) s.M=some v):wk i s=⟨ud s.oc (Ta s.C i) i (List.range 256) s.C,s.oc.set i v,s.M⟩:=by
 simp only[wk,h]
theorem gr {i:Nat} {s:fJ} (h:Wj (Ta (ud s.oc (Ta s.C i) i (List.range 256) s.C) i) s.M=none):
 wk i s=⟨ud s.oc (Ta s.C i) i (List.range 256) s.C,s.oc.set i i,s.M++[(Ta (ud s.oc (Ta s.C i) i (List.range 256) s.C) i,(i:Int))]⟩:=by
 simp only[wk,h]
abbrev Hz (n:Nat) (i:Int):Tr:=(((Tr.lf.set 5 (.pv (i64 i))).set 4 (.mp 7)).set 3 (.own 6 n)).set 0 (.ptr 3 0)
section
variable (call:Ua) (R0 R1:ba) (S:PV) (nl nr nk:Bool) (fr fk:Nat) (sets:List Al) (n:Nat) (s:fJ) (i:Nat)
theorem wK (hC:s.C.length=n * 256) (hk:s.oc.length=n) (hfr:fr=0∨fr=n * 256) (hfk:fk≤n) (hi:i < n) (hn:n≤64) (hto:∀ to∈Ta s.C i,to < n) (hM:∀ p∈s.M,p.1.length=256):
 ∃ fr',(fr'=0∨fr'=n * 256)∧fa (pa call od) (fun s=>some (tidy [0,3,4,5] s)) ⟨Hz n i,Kh R0 R1 S nl nr fr sets s.C n [.seq 1 false (Ha s.oc) fk nk,.map (Zr s.M)]⟩=
  some (.norm,⟨Hz n ((i:Int) - 1),Kh R0 R1 S nl nr fr' sets (wk i s).C n [.seq 1 false (Ha (wk i s).oc) n nk,.map (Zr (wk i s).M)]⟩):=by
 obtain⟨fr',hf',hin⟩:=KI call R0 R1 S nl nr nk fr fk sets s.C n s.oc (.map (Zr s.M)) (Ta s.C i) i hC hk hfr hfk hi (uh hC hi) hto
 refine⟨fr',hf',?_⟩
 have hC2:(ud s.oc (Ta s.C i) i (List.range 256) s.C).length=n * 256:=by rw[Yl,hC]
 have hrl:=uh hC2 hi
 have hfd:=rJ hrl s.M 0 hM
 have his:=qM hrl
 have p1:=LD s.C i
 have p2:=LD (ud s.oc (Ta s.C i) i (List.range 256) s.C) i
 have e1:decide ((i:Int)≥0)=true:=Fa (by omega)
 have hq3:Ga (i:Int) n:=by unfold Ga;omega
 have t3:((i:Int)).toNat=i:=by simp
 have t2:IntKind.i64.wrap ((i:Int) - 1)=(i:Int) - 1:=Da (by omega)
 have w2:Jh 256 n fr (Ha s.C).length:=by rw[gb];unfold Jh;omega
 have w4:((Ha s.C).length=n * 256)=True:=by rw[gb];exact eq_true hC
 have w6:(i * 256+256≤(Ha s.C).length)=True:=by rw[gb];exact eq_true (by omega)
 have hl1:=@yr i s
 have hl2:=@gr i s
 generalize ud s.oc (Ta s.C i) i (List.range 256) s.C=C2 at *
 have w12:Jh 256 n fr' (Ha C2).length:=by rw[gb];unfold Jh;omega
 have w14:((Ha C2).length=n * 256)=True:=by rw[gb];exact eq_true hC2
 have w16:(i * 256+256≤(Ha C2).length)=True:=by rw[gb];exact eq_true (by omega)
 have w1:Jh 1 n fk (Ha s.oc).length:=by rw[gb];unfold Jh;omega
 have w3:((Ha s.oc).length=n)=True:=by rw[gb];exact eq_true hk
 have w5:(i+1≤n)=True:=eq_true (by omega)
 generalize hz:List.replicate 256 1=ks at *
 have hin':qb (fa (pa call ic) (fun s=>some (tidy [0,3,4,5,33,34] s))) qa ⟨gz n (Ta s.C i) i 0,Kh R0 R1 S nl nr fr sets s.C n [.seq 1 false (Ha s.oc) fk nk,.map (Zr s.M)]⟩=_:=hin
 simp only[gz,Kh,tidy,xc] at hin'
 cases hlk:Wj (Ta C2 i) s.M with
 |some v=>
  obtain⟨k,hk2⟩:=hfd.1 v hlk
  rw[hl1 hlk]
  simp -implicitDefEqProofs only[SP,SA,SQ,sevalprocAttr,-List.reduceReplicate,fa,od,e1,eq_true hq3,t2,t3,eq_true w2,w4,w6,p1,wa,bp,tidy,xc,Hz,Kh,hz]
  rw[hin']
  simp -implicitDefEqProofs only[SP,SA,SQ,sevalprocAttr,-List.reduceReplicate,eq_true hq3,t2,t3,eq_true w12,w14,w16,eq_true w1,w3,w5,p2,wa,eq_true his,hk2,Ui,tidy,xc,Hz,Kh]
 |none=>
  have hk2:=hfd.2 hlk
  rw[hl2 hlk]
  simp -implicitDefEqProofs only[SP,SA,SQ,sevalprocAttr,-List.reduceReplicate,fa,od,e1,eq_true hq3,t2,t3,eq_true w2,w4,w6,p1,wa,bp,tidy,xc,Hz,Kh,hz]
  rw[hin']
  simp -implicitDefEqProofs only[SP,SA,SQ,sevalprocAttr,-List.reduceReplicate,eq_true hq3,t2,t3,eq_true w12,w14,w16,eq_true w1,w3,w5,p2,wa,eq_true his,hk2,Ui,tidy,xc,Hz,Kh,SO]
end
end Go.AM.B1
namespace Go.AM.B1
open Go.AM
structure dX (n:Nat) (s:fJ):Prop where
 hC:s.C.length=n * 256
 hk:s.oc.length=n
 cC:∀ c∈s.C,c < n
 ck:∀ c∈s.oc,c < n
 cM:∀ p∈s.M,p.1.length=256∧p.2 < n
theorem UC {oc row:List Int} {i:Nat} {n:Int} (hn:0 < n) (hk:∀ c∈oc,c < n):∀ (xs:List Nat) (C:List Int),(∀ c∈C,c < n)→∀ c∈ud oc row i xs C,c < n
 | [],C,h=>h
 |x::xs,C,h=>by
  rw[ud]
  refine UC hn hk xs _ ?_
  split
  ·split
   ·intro c hc
    rcases List.mem_or_eq_of_mem_set hc with h1 | h1
    ·exact h c h1
    ·subst h1
     next to _ _=>
     rcases Nat.lt_or_ge to.toNat oc.length with h2 | h2
     ·rw[List.getD_eq_getElem?_getD,List.getElem?_eq_getElem h2];exact hk _ (List.getElem_mem h2)
     ·rw[List.getD_eq_getElem?_getD,List.getElem?_eq_none h2];exact hn
   ·exact h
  ·exact h
theorem Is {a:List Int}:∀ {M:List (List Int×Int)} {v:Int},Wj a M=some v→∃ p∈M,p.1=a∧p.2=v
 |p::r,v,h=>by
  rw[Wj] at h
  split at h
  ·next h1=>injection h with h;exact⟨p,by simp,h1.symm,h⟩
  ·obtain⟨q,hq,e⟩:=Is h
   exact⟨q,by simp[hq],e⟩
theorem mB {n i:Nat} {s:fJ} (hi:i < n) (h:dX n s):dX n (wk i s):=by
 have hC2:(ud s.oc (Ta s.C i) i (List.range 256) s.C).length=n * 256:=by rw[Yl,h.hC]
 have hlt:=UC (i:=i) (row:=Ta s.C i) (n:=(n:Int)) (by omega) h.ck (List.range 256) s.C h.cC
 have hl1:=@yr i s
 have hl2:=@gr i s
 generalize ud s.oc (Ta s.C i) i (List.range 256) s.C=C2 at *
 cases hl:Wj (Ta C2 i) s.M with
 |some v=>
  obtain⟨p,hp,_,hv⟩:=Is hl
  have:=(h.cM p hp).2
  rw[hl1 hl]
  refine⟨hC2,by simp[h.hk],hlt,?_,h.cM⟩
  intro c hc
  rcases List.mem_or_eq_of_mem_set hc with h1 | h1
  ·exact h.ck c h1
  ·omega
 |none=>
  rw[hl2 hl]
  refine⟨hC2,by simp[h.hk],hlt,?_,?_⟩
  ·intro c hc
   rcases List.mem_or_eq_of_mem_set hc with h1 | h1
   ·exact h.ck c h1
   ·omega
  ·intro p hp
   rcases List.mem_append.1 hp with h1 | h1
   ·exact h.cM p h1
   ·simp at h1;subst h1;exact⟨uh hC2 hi,by simp;omega⟩
theorem WD {n:Nat}:∀ (k:Nat) (s:fJ),k≤n→dX n s→dX n (nj k s)
 |0,s,_,h=>h
 |k+1,s,hk,h=>WD k _ (by omega) (mB (by omega) h)
def Ge (n:Nat) (C:List Int):fJ:=nj n ⟨C,List.replicate n 0,[]⟩
section
variable (call:Ua) (R0 R1:ba) (S:PV) (nl nr nk:Bool) (sets:List Al) (C:List Int) (n:Nat)
theorem kM (s0:fJ) (hn:n≤64) (h0:0 < n) (Ba:dX n s0):
 ∃ fr fk,(fr=0∨fr=n * 256)∧qb (fa (pa call od) (fun s=>some (tidy [0,3,4,5] s))) qa ⟨Hz n ((n:Int) - 1),Kh R0 R1 S nl nr 0 sets s0.C n [.seq 1 false (Ha s0.oc) 0 nk,.map (Zr s0.M)]⟩=
  some (.exit 0,⟨((Hz n (-1)).set 23 (.pv (i64 (-1)))).set 24 (.pv (.bool false)),Kh R0 R1 S nl nr fr sets (nj n s0).C n [.seq 1 false (Ha (nj n s0).oc) fk nk,.map (Zr (nj n s0).M)]⟩)∧fk≤n:=by
 have key:=sk (g:=fa (pa call od) (fun s=>some (tidy [0,3,4,5] s)))
  (fun j t=>∃ fr fk s,(fr=0∨fr=n * 256)∧fk≤n∧dX n s∧t=⟨Hz n ((n:Int) - 1 - j),Kh R0 R1 S nl nr fr sets s.C n [.seq 1 false (Ha s.oc) fk nk,.map (Zr s.M)]⟩∧nj n s0=nj (n - j) s)
  (fun ex t=>∃ fr fk,(fr=0∨fr=n * 256)∧fk≤n∧ex= .exit 0∧t=⟨((Hz n (-1)).set 23 (.pv (i64 (-1)))).set 24 (.pv (.bool false)),Kh R0 R1 S nl nr fr sets (nj n s0).C n [.seq 1 false (Ha (nj n s0).oc) fk nk,.map (Zr (nj n s0).M)]⟩)
  qa n 0 ⟨Hz n ((n:Int) - 1 - (0:Nat)),Kh R0 R1 S nl nr 0 sets s0.C n [.seq 1 false (Ha s0.oc) 0 nk,.map (Zr s0.M)]⟩ (by unfold qa;omega) (by omega) ⟨0,0,s0,.inl rfl,by omega,Ba,rfl,rfl⟩ ?_ ?_
 ·obtain⟨ex,t,h,_,fr,fk,q1,q2,rfl,rfl⟩:=key
  rw[show ((n:Int) - 1 - (0:Nat))=(n:Int) - 1 by omega] at h
  exact⟨fr,fk,q1,h,q2⟩
 ·rintro j hj t ⟨fr,fk,s,hf,hfk,hs,rfl,hl⟩
  obtain⟨i,hi⟩:∃ i,n - j=i+1:=⟨n - j - 1,by omega⟩
  rw[hi,nj] at hl
  obtain⟨fr',hf',hr⟩:=wK call R0 R1 S nl nr nk fr fk sets n s i hs.hC hs.hk hf hfk (by omega) hn
   (fun to h=>hs.cC to (List.mem_of_mem_drop (List.mem_of_mem_take h))) (fun p hp=>(hs.cM p hp).1)
  rw[show ((n:Int) - 1 - (j:Int))=(i:Int) by omega]
  refine .inl ⟨_,hr,fr',n,wk i s,hf',by omega,mB (by omega) hs,?_,?_⟩
  ·rw[show ((n:Int) - 1 - ((j+1:Nat):Int))=(i:Int) - 1 by omega]
  ·rw[hl,show n - (j+1)=i by omega]
 ·rintro t ⟨fr,fk,s,hf,hfk,hs,rfl,hl⟩
  rw[Nat.sub_self,nj] at hl
  rw[show ((n:Int) - 1 - (n:Int))= -1 by omega]
  refine⟨.exit 0,_,?_,rfl,fr,fk,hf,hfk,rfl,rfl⟩
  rw[hl]
  have e1:decide ((-1:Int)≥0)=false:=by decide
  simp -implicitDefEqProofs only[SP,SA,SQ,sevalprocAttr,-List.reduceReplicate,fa,od,e1,Hz,Kh]
theorem KF (n:Nat):qk [PV.int .i64 0] n=Ha (List.replicate n 0):=by
 induction n with
 |zero=>rfl
 |succ n ih=>rw[qk,ih];rfl
theorem nO (hn:n≤64) (h0:0 < n) (hs:sets.length=n) (hC:C.length=n * 256) (cC:∀ c∈C,c < n):
 ∃ fr fk v,(fr=0∨fr=n * 256)∧Ei call qi [.ptr 3 0] (Kh R0 R1 S nl nr 0 sets C n [])=
  some (v,Kh R0 R1 S nl nr fr sets (Ge n C).C n [.seq 1 false (Ha (Ge n C).oc) fk false,.map (Zr (Ge n C).M)]):=by
 obtain⟨fr,fk,hf,hl,hfk⟩:=kM call R0 R1 S nl nr false sets n ⟨C,List.replicate n 0,[]⟩ hn h0
  ⟨hC,by simp,cC,by intro c hc;rw[List.eq_of_mem_replicate hc];omega,by simp⟩
 refine⟨fr,fk,.own 6 n,hf,?_⟩
 have hlen:(sets.map Ih).length=n:=by rw[List.length_map,hs]
 have r0:qk [PV.int .i64 0] n=Ha (List.replicate n 0):=KF n
 have t1:((n:Int)).toNat=n:=by simp
 have t2:IntKind.i64.wrap ((n:Int) - 1)=(n:Int) - 1:=Da (by omega)
 have e1:(0≤(n:Int))=True:=by simp
 have e2:mb n 8:=by unfold mb;omega
 have e3:((n:Int)≤(n:Int))=True:=by simp
 unfold Ge
 generalize nj n ⟨C,List.replicate n 0,[]⟩=g at *
 generalize List.replicate n (0:Int)=zs at *
 simp only[tidy,xc,Hz,Kh,Zr,List.map_nil] at hl
 simp -implicitDefEqProofs only[SP,SA,SQ,sevalprocAttr,-List.reduceReplicate,qi,hlen,r0,t1,t2,e1,eq_true e2,e3,bp,tidy,xc,Kh]
 rw[hl]
 simp -implicitDefEqProofs only[SP,SA,SQ,sevalprocAttr,-List.reduceReplicate,Kh,Zr]
end
end Go.AM.B1
namespace Go.AM.B1
open Go.AM
structure xe where
 lo:Int
 hi:Int
 to:Int
deriving DecidableEq
def FE (e:xe):PV:= .agg [i64 e.lo,i64 e.hi,i64 e.to]
def Sc (l:List xe):List Int:=l.flatMap fun e=>[e.lo,e.hi,e.to]
theorem Gj (l:List xe):(Sc l).length=l.length * 3:=by
 induction l with
 |nil=>rfl
 |cons e l ih=>simp only[Sc,List.flatMap_cons,List.length_append,List.length_cons,List.length_nil] at ih ⊢;omega
theorem Hl (l:List xe) (e:xe):Sc (l++[e])=Sc l++[e.lo,e.hi,e.to]:=by simp[Sc]
def Bf (x to:Int) (l:List xe):List xe:=
 if to= -2 then l else match l.getLast? with
  |some e=>if e.to=to∧e.hi=x - 1 then l.dropLast++[⟨e.lo,x,e.to⟩] else l++[⟨x,x,to⟩]
  |none=>l++[⟨x,x,to⟩]
theorem tW (a b c:Int):Ha [a,b,c]=[.pv (i64 a),.pv (i64 b),.pv (i64 c)]:=rfl
theorem dE (a b:List Int):Ha (a++b)=Ha a++Ha b:=by simp[Ha]
abbrev Wr (row:List Int) (n:Nat) (x:Int):Tr:=((Tr.lf.set 8 (.pv (i64 x))).set 7 (.pv (Qh row))).set 3 (.own 0 n)
theorem qD (l:List Int) (e:xe) (k:Nat) (hk:k < 3):(Ha (l++[e.lo,e.hi,e.to]))[l.length+k]? =some (.pv (i64 (if k=0 then e.lo else if k=1 then e.hi else e.to))):=by
 rw[Ha,List.getElem?_map,List.getElem?_append_right (by omega),Nat.add_sub_cancel_left]
 match k,hk with
 |0,_=>rfl
 |1,_=>rfl
 |2,_=>rfl
section
variable (call:Ua) (row:List Int) (x:Nat) (to:Int) (fl:Nat)
 (hx:x < 256) (hto:row[x]? =some to)
include hx hto
theorem oP (l:List xe) (nl:Bool) (h:to= -2):fa (pa call Oc) (fun s=>some (tidy [3,7,8] s)) ⟨Wr row l.length x,[.seq 3 true (Ha (Sc l)) fl nl]⟩=
 some (.norm,⟨Wr row l.length (x+1:Nat),[.seq 3 true (Ha (Sc l)) fl nl]⟩):=by
 have e1:decide ((x:Int) < 256)=true:=Fa (by omega)
 have e2:(to== -2)=true:=by simp[h]
 have hq:Ga (x:Int) 256:=by unfold Ga;omega
 have t1:((x:Int)).toNat=x:=by simp
 have t2:=Ya (i:=x) (n:=256) hx (by unfold maxLen;omega)
 have ht:(row.map i64)[x]? =some (i64 to):=by rw[List.getElem?_map,hto];rfl
 simp -implicitDefEqProofs only[SP,SA,SQ,sevalprocAttr,fa,Oc,e1,e2,eq_true hq,t1,t2,ht,wa,tidy,xc,Wr]
theorem xM (nl:Bool) (h:to≠ -2):fa (pa call Oc) (fun s=>some (tidy [3,7,8] s)) ⟨Wr row 0 x,[.seq 3 true [] 0 nl]⟩=
 some (.norm,⟨Wr row 1 (x+1:Nat),[.seq 3 true (Ha [(x:Int),x,to]) 0 false]⟩):=by
 have e1:decide ((x:Int) < 256)=true:=Fa (by omega)
 have e2:(to== -2)=false:=Zh h
 have hq:Ga (x:Int) 256:=by unfold Ga;omega
 have t1:((x:Int)).toNat=x:=by simp
 have t2:=Ya (i:=x) (n:=256) hx (by unfold maxLen;omega)
 have ht:(row.map i64)[x]? =some (i64 to):=by rw[List.getElem?_map,hto];rfl
 have q1:mb 1 24:=by unfold mb;omega
 simp -implicitDefEqProofs only[SP,SA,SQ,sevalprocAttr,fa,Oc,e1,e2,eq_true hq,t1,t2,ht,eq_true q1,wa,tidy,xc,Wr,jj,Yh,AV.EB,AV.bo,Ha]
variable (l:List xe) (e:xe) (hl:l.length < 256) (hfl:fl≤(l.length+1) * 3)
include hl hfl
theorem WO (h:to≠ -2) (h1:e.to=to) (h2:e.hi=(x:Int) - 1):fa (pa call Oc) (fun s=>some (tidy [3,7,8] s)) ⟨Wr row (l.length+1) x,[.seq 3 true (Ha (Sc l++[e.lo,e.hi,e.to])) fl false]⟩=
 some (.norm,⟨Wr row (l.length+1) (x+1:Nat),[.seq 3 true (Ha (Sc l++[e.lo,(x:Int),e.to])) ((l.length+1) * 3) false]⟩):=by
 have e1:decide ((x:Int) < 256)=true:=Fa (by omega)
 have e2:(to== -2)=false:=Zh h
 have hq:Ga (x:Int) 256:=by unfold Ga;omega
 have t1:((x:Int)).toNat=x:=by simp
 have t2:=Ya (i:=x) (n:=256) hx (by unfold maxLen;omega)
 have ht:(row.map i64)[x]? =some (i64 to):=by rw[List.getElem?_map,hto];rfl
 have e3:decide (((l.length+1:Nat):Int) > 0)=true:=Fa (by omega)
 have t3:IntKind.i64.wrap (((l.length+1:Nat):Int) - 1)=(l.length:Int):=by rw[Da (by omega)];omega
 have t4:((l.length:Int)).toNat=l.length:=by simp
 have t5:IntKind.i64.wrap ((x:Int) - 1)=(x:Int) - 1:=Da (by omega)
 have hq2:Ga (l.length:Int) (l.length+1):=by unfold Ga;omega
 have hlen:(Ha (Sc l++[e.lo,e.hi,e.to])).length=(l.length+1) * 3:=by rw[gb,List.length_append,Gj];simp;omega
 have w1:Jh 3 (l.length+1) fl (Ha (Sc l++[e.lo,e.hi,e.to])).length:=by rw[hlen];unfold Jh;omega
 have w2:((Ha (Sc l++[e.lo,e.hi,e.to])).length=(l.length+1) * 3)=True:=eq_true hlen
 have g2:=qD (Sc l) e 2 (by omega)
 have g1:=qD (Sc l) e 1 (by omega)
 rw[Gj] at g1 g2
 simp only[h1,h2] at g1 g2
 have b1:(to==to)=true:=by simp
 have b2:((x:Int) - 1==(x:Int) - 1)=true:=by simp
 have w3:(l.length * 3+1+1≤(l.length+1) * 3)=True:=eq_true (by omega)
 have hset:(Ha (Sc l++[e.lo,(x:Int) - 1,to])).set (l.length * 3+1) (.pv (i64 x))=Ha (Sc l++[e.lo,(x:Int),to]):=by
  rw[Ui,←Gj,List.set_append_right _ _ (by omega),Nat.add_sub_cancel_left];rfl
 rw[h1,h2] at *
 generalize Sc l++[e.lo,(x:Int) - 1,to]=cs at *
 simp -implicitDefEqProofs only[SP,SA,SQ,sevalprocAttr,fa,Oc,e1,e2,e3,eq_true hq,eq_true hq2,t1,t2,t3,t4,t5,ht,g1,g2,eq_true w1,w2,w3,b1,b2,hset,wa,tidy,xc,Wr]
theorem fP (h:to≠ -2) (h1:¬(e.to=to∧e.hi=(x:Int) - 1)):fa (pa call Oc) (fun s=>some (tidy [3,7,8] s)) ⟨Wr row (l.length+1) x,[.seq 3 true (Ha (Sc l++[e.lo,e.hi,e.to])) fl false]⟩=
 some (.norm,⟨Wr row (l.length+1+1) (x+1:Nat),[.seq 3 true (Ha (Sc l++[e.lo,e.hi,e.to])++Ha [(x:Int),x,to]) fl false]⟩):=by
 have e1:decide ((x:Int) < 256)=true:=Fa (by omega)
 have e2:(to== -2)=false:=Zh h
 have hq:Ga (x:Int) 256:=by unfold Ga;omega
 have t1:((x:Int)).toNat=x:=by simp
 have t2:=Ya (i:=x) (n:=256) hx (by unfold maxLen;omega)
 have ht:(row.map i64)[x]? =some (i64 to):=by rw[List.getElem?_map,hto];rfl
 have e3:decide (((l.length+1:Nat):Int) > 0)=true:=Fa (by omega)
 have t3:IntKind.i64.wrap (((l.length+1:Nat):Int) - 1)=(l.length:Int):=by rw[Da (by omega)];omega
 have t4:((l.length:Int)).toNat=l.length:=by simp
 have t5:IntKind.i64.wrap ((x:Int) - 1)=(x:Int) - 1:=Da (by omega)
 have hq2:Ga (l.length:Int) (l.length+1):=by unfold Ga;omega
 have hlen:(Ha (Sc l++[e.lo,e.hi,e.to])).length=(l.length+1) * 3:=by rw[gb,List.length_append,Gj];simp;omega
 have w1:Jh 3 (l.length+1) fl (Ha (Sc l++[e.lo,e.hi,e.to])).length:=by rw[hlen];unfold Jh;omega
 have w2:((Ha (Sc l++[e.lo,e.hi,e.to])).length=(l.length+1) * 3)=True:=eq_true hlen
 have w2':((l.length+1) * 3=(Ha (Sc l++[e.lo,e.hi,e.to])).length)=True:=eq_true hlen.symm
 have g2:(Ha (Sc l++[e.lo,e.hi,e.to]))[(Sc l).length+2]? =some (.pv (i64 e.to)):=qD (Sc l) e 2 (by omega)
 have g1:(Ha (Sc l++[e.lo,e.hi,e.to]))[(Sc l).length+1]? =some (.pv (i64 e.hi)):=qD (Sc l) e 1 (by omega)
 rw[Gj] at g1 g2
 have q1:mb (l.length+1+1) 24:=by unfold mb;omega
 generalize Sc l++[e.lo,e.hi,e.to]=cs at *
 by_cases hb1:e.to=to
 ·have b1:(e.to==to)=true:=by simp[hb1]
  have b2:(e.hi==(x:Int) - 1)=false:=Zh fun hh=>h1 ⟨hb1,hh⟩
  simp -implicitDefEqProofs only[SP,SA,SQ,sevalprocAttr,fa,Oc,e1,e2,e3,eq_true hq,eq_true hq2,t1,t2,t3,t4,t5,ht,g1,g2,eq_true w1,w2,w2',eq_true q1,b1,b2,wa,tidy,xc,Wr,jj,Yh,AV.EB,AV.bo,tW]
 ·have b1:(e.to==to)=false:=Zh hb1
  simp -implicitDefEqProofs only[SP,SA,SQ,sevalprocAttr,fa,Oc,e1,e2,e3,eq_true hq,eq_true hq2,t1,t2,t3,t4,t5,ht,g1,g2,eq_true w1,w2,w2',eq_true q1,b1,wa,tidy,xc,Wr,jj,Yh,AV.EB,AV.bo,tW]
end
end Go.AM.B1
namespace Go.AM.B1
open Go.AM
def je (row:List Int):List Nat→List xe→List xe
 | [],l=>l
 |x::xs,l=>je row xs (Bf x (row.getD x 0) l)
def Ff (row:List Int):List xe:=je row (List.range 256) []
def Od (l:List xe):PV:=if l.isEmpty then .ma else .lit 3 (l.map FE)
theorem Bx (x:Int) (l:List xe):Bf x (-2) l=l:=by simp[Bf]
theorem Nv {x to:Int} (h:to≠ -2):Bf x to []=[⟨x,x,to⟩]:=by simp[Bf,h]
theorem Tx {x:Int} {l:List xe} {e:xe} (h:e.to≠ -2) (h2:e.hi=x - 1):Bf x e.to (l++[e])=l++[⟨e.lo,x,e.to⟩]:=by simp[Bf,h,h2]
theorem Ft {x to:Int} {l:List xe} {e:xe} (h:to≠ -2) (h2:¬(e.to=to∧e.hi=x - 1)):Bf x to (l++[e])=l++[e]++[⟨x,x,to⟩]:=by
 simp only[Bf,if_neg h,List.getLast?_append,List.getLast?_singleton,Option.some_or,if_neg h2]
theorem fF (H:List ba) (d:Nat) (l:List Int):Sa (Xb H d) (Ha l)=some (l.map i64):=by
 induction l with
 |nil=>rfl
 |cons a l ih=>simp only[Ha,List.map_cons,Sa,Qf,Option.bind_some] at ih ⊢;rw[ih];rfl
theorem yL:∀ (l:List xe),chunk 3 true l.length ((Sc l).map i64)=l.map FE
 | []=>rfl
 |e::l=>by
  have:=yL l
  rw[List.length_cons,chunk]
  simp only[Sc,List.flatMap_cons,List.cons_append,List.nil_append,List.map_cons,List.take,List.drop,if_true] at this ⊢
  rw[this];rfl
theorem TL (H:List ba) (id:Nat) (l:List xe) (fl:Nat) (h:H[id]? =some (.seq 3 true (Ha (Sc l)) fl l.isEmpty)):Xb H deep (.own id l.length)=some (Od l):=by
 have hl:(l.length * 3=(Ha (Sc l)).length)=True:=by rw[gb,Gj];exact eq_self _
 rw[vc]
 simp only[Xb,h,hl,Bool.true_or,and_self,if_true]
 unfold Od
 cases hn:l.isEmpty with
 |true=>rfl
 |false=>simp only[Bool.false_eq_true,if_false,fF,Option.map_some,yL]
section
variable (row:List Int) (hrow:row.length=256)
include hrow
theorem cL (call:Ua):∃ fl,qb (fa (pa call Oc) (fun s=>some (tidy [3,7,8] s))) qa ⟨Wr row 0 0,[.seq 3 true [] 0 true]⟩=
 some (.exit 0,⟨(Wr row (Ff row).length 256).set 9 (.pv (.bool false)),[.seq 3 true (Ha (Sc (Ff row))) fl (Ff row).isEmpty]⟩):=by
 unfold Ff
 generalize hxs:List.range 256=xs
 have key:=sk (g:=fa (pa call Oc) (fun s=>some (tidy [3,7,8] s)))
  (fun x t=>∃ fl l,fl≤l.length * 3∧l.length≤x∧t=⟨Wr row l.length x,[.seq 3 true (Ha (Sc l)) fl l.isEmpty]⟩∧je row xs []=je row (xs.drop x) l)
  (fun ex t=>∃ fl,ex= .exit 0∧t=⟨(Wr row (je row xs []).length 256).set 9 (.pv (.bool false)),[.seq 3 true (Ha (Sc (je row xs []))) fl (je row xs []).isEmpty]⟩)
  qa 256 0 ⟨Wr row 0 (0:Nat),[.seq 3 true [] 0 true]⟩ (by unfold qa;omega) (by omega) ⟨0,[],by simp,by simp,rfl,rfl⟩ ?_ ?_
 ·obtain⟨ex,t,h,_,fl,rfl,rfl⟩:=key
  exact⟨fl,h⟩
 ·rintro x hx t ⟨fl,l,hf,hlx,rfl,hl⟩
  have hd:=Jp hx
  rw[hxs] at hd
  obtain⟨to,ht⟩:∃ to,row[x]? =some to:=⟨row[x],by simp[hrow,hx]⟩
  have hgd:row.getD x 0=to:=by simp[List.getD_eq_getElem?_getD,ht]
  rw[hd,je,hgd] at hl
  by_cases h2:to= -2
  ·rw[h2,Bx] at hl
   exact .inl ⟨_,oP call row x to fl hx ht l _ h2,fl,l,hf,by omega,rfl,hl⟩
  rcases List.eq_nil_or_concat l with rfl | ⟨l',e,rfl⟩
  ·rw[Nv h2] at hl
   have hf0:fl=0:=by simpa using hf
   subst hf0
   exact .inl ⟨_,xM call row x to hx ht true h2,0,[⟨x,x,to⟩],by simp,by simp,rfl,hl⟩
  ·simp only[List.concat_eq_append] at *
   have hem:(l'++[e]).isEmpty=false:=by simp
   have hlen:(l'++[e]).length=l'.length+1:=by simp
   rw[hlen] at hf hlx
   rw[hem,hlen,Hl]
   by_cases h3:e.to=to∧e.hi=(x:Int) - 1
   ·obtain⟨h3,h4⟩:=h3
    rw[← h3,Tx (by rw[h3];exact h2) h4] at hl
    refine .inl ⟨_,WO call row x to fl hx ht l' e (by omega) hf h2 h3 h4,(l'.length+1) * 3,l'++[⟨e.lo,x,e.to⟩],by simp,by simp;omega,?_,hl⟩
    rw[Hl];simp
   ·rw[Ft h2 h3] at hl
    refine .inl ⟨_,fP call row x to fl hx ht l' e (by omega) hf h2 h3,fl,_,?_,?_,?_,hl⟩
    ·simp;omega
    ·simp;omega
    ·rw[Hl,Hl,dE];simp[Ha]
 ·rintro t ⟨fl,l,hf,hlx,rfl,hl⟩
  rw[List.drop_eq_nil_of_le (by rw[← hxs,List.length_range];exact Nat.le_refl _)] at hl
  refine⟨.exit 0,_,?_,rfl,fl,rfl,rfl⟩
  rw[hl]
  have e1:decide (((256:Nat):Int) < 256)=false:=by decide
  simp -implicitDefEqProofs only[SP,SA,SQ,sevalprocAttr,fa,Oc,e1,Wr,je]
theorem DQ:cp [Qh row]=some (Od (Ff row)):=by
 obtain⟨fl,hl⟩:=cL row hrow (Ea (fun _=>none) 8)
 have ht:=TL [.seq 3 true (Ha (Sc (Ff row))) fl (Ff row).isEmpty] 0 (Ff row) fl rfl
 have h9:(row.map i64).map AV.pv=Ha row:=(Gs row).symm
 have p0:((Ha row).length=256)=True:=by rw[gb,hrow];exact eq_self _
 have p1:(256≤(Ha row).length)=True:=by rw[gb,hrow];exact eq_true (Nat.le_refl _)
 have p2:List.take 256 (Ha row)=Ha row:=List.take_of_length_le (by rw[gb,hrow];exact Nat.le_refl _)
 have p3:=Ys row
 have p5:=XD row
 have p6:=fF [] 0 row
 have p8:List.take 256 (row.map i64)=row.map i64:=List.take_of_length_le (by rw[List.length_map,hrow];exact Nat.le_refl _)
 have p7:(256≤(row.map i64).length)=True:=by rw[List.length_map,hrow];exact eq_true (Nat.le_refl _)
 have p4:((row.map i64).length=256)=True:=by rw[List.length_map,hrow];exact eq_self _
 generalize Ff row=es at *
 simp only[tidy,xc,Wr] at hl
 simp -implicitDefEqProofs only[cp,SP,SA,SQ,sevalprocAttr,Nt,h9,p0,p1,p2,p3,p4,p5,p6,p7,p8,Ee,bp,tidy,xc]
 rw[hl]
 simp -implicitDefEqProofs only[SP,SA,SQ,sevalprocAttr,ht]
end
end Go.AM.B1
namespace Go.AM.B1
open Go.AM
def Ts (a:Int):List Int→Nat→Option Nat
 | [],_=>none
 |b::l,k=>if a=b then some k else Ts a l (k+1)
def JJ (l:List Int) (k:Nat):List (PV×PV):=(l.zipIdx k).map fun p=>(i64 p.1,i64 p.2)
theorem xz (a:Int) (l:List Int) (k:Nat):JJ (a::l) k=(i64 a,i64 k)::JJ l (k+1):=rfl
theorem HF (a:Int):∀ (l:List Int) (k:Nat),JJ (l++[a]) k=JJ l k++[(i64 a,i64 (k+l.length:Nat))]
 | [],k=>by simp[JJ]
 |b::l,k=>by rw[List.cons_append,xz,HF a l (k+1),xz];simp;omega
theorem KN {a:Int}:∀ {l:List Int} {k i:Nat},Ts a l k=some i→k≤i
 |b::l,k,i,h=>by
  simp only[Ts] at h
  split at h
  ·injection h with h;omega
  ·have:=KN h;omega
theorem mI (a:Int):∀ (l:List Int) (k j:Nat),Nl (.one 1) (i64 a) (JJ l k) j=some ((Ts a l k).map fun i=>(j+(i - k),i64 i)):=by
 intro l
 induction l with
 |nil=>intro k j;rfl
 |cons b l ih=>
  intro k j
  have he:rk (.one 1) (i64 a) (i64 b)=some (decide (a=b)):=by
   show (if IntKind.i64=IntKind.i64 then some (a==b) else none)=_
   rw[if_pos rfl]
   congr 1
  rw[xz,Nl,he]
  simp only[Option.bind_some,Ts]
  by_cases h:a=b
  ·simp[h]
  ·rw[if_neg h,ih]
   simp only[h,decide_false,Bool.false_eq_true,if_false,Option.some.injEq]
   cases hi:Ts a l (k+1) with
   |none=>rfl
   |some i=>
    have:=KN hi
    simp only[Option.map_some,Option.some.injEq,Prod.mk.injEq,and_true]
    omega
theorem GC (a:Int):(rk (.one 1) (i64 a) (i64 a)).isSome=true:=rfl
abbrev an (R0 R1:ba) (S:PV) (nl nr:Bool) (fr:Nat) (sets:List Al) (C:List Int) (n:Nat) (L M:ba) (O:List Int) (out:List PV) (no:Bool) (T:List ba):List ba:=
 Kh R0 R1 S nl nr fr sets C n (L::M:: .box [.pv .ma]:: .map (JJ O 0):: .tok 1 O.length false:: .box [.uq 12 no 1 out]:: .tok 1 out.length no::T)
abbrev Gw (q:Nat) (k:Int) (O:List Int) (eb:List Int) (x:Int):Tr:=
 (((((((((Tr.lf.set 32 (.pv (i64 x))).set 31 (.pv (Qh eb))).set 7 (.ptr q 0)).set 6 (.pv (i64 k))).set 5 (.ptr 11 0)).set 4 (.uq 10 false 1 (O.map i64))).set 3 (.mp 9)).set 2 (.ptr 8 0)).set 0 (.ptr 3 0))
def Ai (x:Nat) (to:Int) (r:List Int×List Int):List Int×List Int:=
 if to < 0 then r else match Ts to r.1 0 with
  |some k=>(r.1,r.2.set x k)
  |none=>(r.1++[to],r.2.set x r.1.length)
section
variable (call:Ua) (R0 R1:ba) (S:PV) (nl nr:Bool) (fr:Nat) (sets:List Al) (C:List Int) (n:Nat) (L M:ba) (O:List Int) (out:List PV) (no:Bool) (J:List ba)
 (k:Int) (eb row:List Int) (x:Nat) (to:Int) (q:Nat) (hx:x < 256) (hto:eb[x]? =some to)
include hx hto
theorem YO (h:to < 0):
 fa (pa call bc) (fun s=>some (tidy [0,2,3,4,5,6,7,31,32] s)) ⟨Gw q k O eb x,an R0 R1 S nl nr fr sets C n L M O out no (J++[.box (Ha row)])⟩=
  some (.norm,⟨Gw q k O eb (x+1:Nat),an R0 R1 S nl nr fr sets C n L M O out no (J++[.box (Ha row)])⟩):=by
 have e1:decide ((x:Int) < 256)=true:=Fa (by omega)
 have e2:decide (to < 0)=true:=Fa (by omega)
 have hq:Ga (x:Int) 256:=by unfold Ga;omega
 have t1:((x:Int)).toNat=x:=by simp
 have t2:=Ya (i:=x) (n:=256) hx (by unfold maxLen;omega)
 have ht:(eb.map i64)[x]? =some (i64 to):=by rw[List.getElem?_map,hto];rfl
 simp -implicitDefEqProofs only[SP,SA,SQ,sevalprocAttr,-List.reduceReplicate,fa,bc,e1,e2,eq_true hq,t1,t2,ht,wa,tidy,xc,Gw,an,Kh]
theorem iS (hq13:q=J.length+1+1+1+1+1+1+1+1+1+1+1+1+1) (hrow:row.length=256) (h:¬to < 0) {j:Nat} (hj:Ts to O 0=some j):
 fa (pa call bc) (fun s=>some (tidy [0,2,3,4,5,6,7,31,32] s)) ⟨Gw q k O eb x,an R0 R1 S nl nr fr sets C n L M O out no (J++[.box (Ha row)])⟩=
  some (.norm,⟨Gw q k O eb (x+1:Nat),an R0 R1 S nl nr fr sets C n L M O out no (J++[.box (Ha (row.set x j))])⟩):=by
 have e1:decide ((x:Int) < 256)=true:=Fa (by omega)
 have e2:decide (to < 0)=false:=Ka (by omega)
 have hq:Ga (x:Int) 256:=by unfold Ga;omega
 have t1:((x:Int)).toNat=x:=by simp
 have t2:=Ya (i:=x) (n:=256) hx (by unfold maxLen;omega)
 have ht:(eb.map i64)[x]? =some (i64 to):=by rw[List.getElem?_map,hto];rfl
 have hf:=mI to O 0 0
 rw[hj] at hf
 simp only[Option.map_some] at hf
 have his:=GC to
 have hle:(x+1≤(Ha row).length)=True:=by rw[gb];exact eq_true (by omega)
 subst hq13
 simp -implicitDefEqProofs only[SP,SA,SQ,sevalprocAttr,-List.reduceReplicate,fa,bc,e1,e2,eq_true hq,t1,t2,ht,hf,eq_true his,hle,Ui,Ln,On,wa,tidy,xc,Gw,an,Kh]
theorem eT (hq13:q=J.length+1+1+1+1+1+1+1+1+1+1+1+1+1) (hrow:row.length=256) (h:¬to < 0) (hj:Ts to O 0=none) (hO:O.length < 100):
 fa (pa call bc) (fun s=>some (tidy [0,2,3,4,5,6,7,31,32] s)) ⟨Gw q k O eb x,an R0 R1 S nl nr fr sets C n L M O out no (J++[.box (Ha row)])⟩=
  some (.norm,⟨Gw q k (O++[to]) eb (x+1:Nat),an R0 R1 S nl nr fr sets C n L M (O++[to]) out no (J++[.box (Ha (row.set x O.length))])⟩):=by
 have e1:decide ((x:Int) < 256)=true:=Fa (by omega)
 have e2:decide (to < 0)=false:=Ka (by omega)
 have hq:Ga (x:Int) 256:=by unfold Ga;omega
 have t1:((x:Int)).toNat=x:=by simp
 have t2:=Ya (i:=x) (n:=256) hx (by unfold maxLen;omega)
 have ht:(eb.map i64)[x]? =some (i64 to):=by rw[List.getElem?_map,hto];rfl
 have hf:=mI to O 0 0
 rw[hj] at hf
 simp only[Option.map_none] at hf
 have his:=GC to
 have hle:(x+1≤(Ha row).length)=True:=by rw[gb];exact eq_true (by omega)
 have hlen:(O.map i64).length=O.length:=by simp
 have q1:mb (O.length+1) 8:=by unfold mb;omega
 have hp:=HF to O 0
 rw[Nat.zero_add] at hp
 have hlen2:(O++[to]).length=O.length+1:=by simp
 have hmap:(O++[to]).map i64=O.map i64++[i64 to]:=by simp
 subst hq13
 unfold Gw an
 rw[hp,hlen2,hmap]
 simp -implicitDefEqProofs only[SP,SA,SQ,sevalprocAttr,-List.reduceReplicate,fa,bc,e1,e2,eq_true hq,t1,t2,ht,hf,eq_true his,hle,hlen,eq_true q1,Ui,Ln,On,wa,tidy,xc,Kh,Yh,AV.EB,AV.bo]
end
end Go.AM.B1
