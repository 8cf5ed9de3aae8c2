/- What functions of the program compute. -/
import Derived.Test.YtijlhblleiaomaaGreatV2
set_option linter.unusedVariables false
set_option linter.unusedSimpArgs false
namespace Go.AM.B1
open Go.AM
theorem wo (A:List ba) (o:ba):(A++[o])[A.length]? =some o:=by simp
theorem zo (A:List ba) (o o':ba):(A++[o]).set A.length o'=A++[o']:=by
 apply List.ext_getElem?
 intro i
 by_cases h:i=A.length
 ·subst h;simp
 ·rw[List.getElem?_set_ne (Ne.symm h)]
  rcases Nat.lt_or_ge i A.length with h1 | h1
  ·rw[List.getElem?_append_left h1,List.getElem?_append_left h1]
  ·rw[List.getElem?_append_right h1,List.getElem?_append_right h1]
   have:i - A.length≠0:=by omega
   obtain⟨k,hk⟩:∃ k,i - A.length=k+1:=⟨i - A.length - 1,by omega⟩
   rw[hk];simp
abbrev u32 (n:Int):PV:= .int .u32 n
abbrev Nx (S:PV) (x d bits len i left:Int) (ends:Bool):Tr:=
 ((((((Tr.lf.set 18 (.pv (i64 i))).set 17 (.pv (i64 len))).set 16 (.pv S)).set 9 (.pv (.bool ends))).set 8 (.pv (u32 left))).set 4 (.pv (.rp [i64 d,u32 bits] 0))).set 2 (.pv (i64 x))
def Py (bits:Int) (i:Nat):Bool:=IntKind.u32.wrap (((BitVec.ofInt IntKind.u32.bits (bits.fdiv (2 ^ min i IntKind.u32.bits)) &&& BitVec.ofInt IntKind.u32.bits 1).toNat:Nat):Int)==1
theorem Uw (bits:Int) (i:Nat):(IntKind.u32.wrap (((BitVec.ofInt IntKind.u32.bits (bits.fdiv (2 ^ min i IntKind.u32.bits)) &&& BitVec.ofInt IntKind.u32.bits 1).toNat:Nat):Int)==1)=Py bits i:=rfl
def VY (left:Int) (i:Nat):Int:=IntKind.u32.wrap (((BitVec.ofInt IntKind.u32.bits left ||| BitVec.ofInt IntKind.u32.bits (IntKind.u32.wrap (1 * 2 ^ min i IntKind.u32.bits))).toNat:Nat):Int)
theorem PJ (left:Int) (i:Nat):IntKind.u32.wrap (((BitVec.ofInt IntKind.u32.bits left ||| BitVec.ofInt IntKind.u32.bits (IntKind.u32.wrap (1 * 2 ^ min i IntKind.u32.bits))).toNat:Nat):Int)=VY left i:=rfl
section
variable (call:Wa) (A:List ba) (ss:List PV) (x bits left:Int) (d:Nat) (ends:Bool) (i len:Nat) (hi:i < len) (hl:len=ss.length) (hw:len≤maxLen) (ps:List PV) (first:Int) (hs:ss[i]? =some (.agg [.lit 1 ps,i64 first]))
include hi hl hw hs
theorem MW (hb:Py bits i=false):
 ga (ua call Db) (fun s=>some (tidy [2,4,8,9,16,17,18] s)) ⟨Nx (.lit 2 ss) x d bits len i left ends,A⟩=
  some (.norm,⟨Nx (.lit 2 ss) x d bits len (i+1:Nat) left ends,A++[.box [.pv (.lit 1 ps),.pv (i64 first)]]⟩):=by
 have e1:decide ((i:Int) < (len:Int))=true:=Fa (by omega)
 have hq:Ia (i:Int) ss.length:=by unfold Ia;omega
 have t1:((i:Int)).toNat=i:=by simp
 have t2:=Ua hi hw
 have hn:((i:Int) < 0)=False:=by simp
 simp -implicitDefEqProofs only[SP,SA,SQ,sevalprocAttr,ga,Db,e1,eq_true hq,t1,t2,hs,hn,Uw,hb,wa,wo,zo,tidy,Bc,Nx]
theorem VV (hb:Py bits i=true) (qs:List PV) (hp:ps[d]? =some (.lit 2 qs)) (hdl:d < ps.length) (hd:d < 4611686018427387904) (hh:Wk [.lit 2 qs,i64 x]=some (.bool false)):
 ga (ua call Db) (fun s=>some (tidy [2,4,8,9,16,17,18] s)) ⟨Nx (.lit 2 ss) x d bits len i left ends,A⟩=
  some (.norm,⟨Nx (.lit 2 ss) x d bits len (i+1:Nat) left ends,A++[.box [.pv (.lit 1 ps),.pv (i64 first)]]⟩):=by
 have e1:decide ((i:Int) < (len:Int))=true:=Fa (by omega)
 have hq:Ia (i:Int) ss.length:=by unfold Ia;omega
 have t1:((i:Int)).toNat=i:=by simp
 have t2:=Ua hi hw
 have hn:((i:Int) < 0)=False:=by simp
 have hq2:Ia (d:Int) ps.length:=by unfold Ia;omega
 have t3:((d:Int)).toNat=d:=by simp
 simp -implicitDefEqProofs only[SP,SA,SQ,sevalprocAttr,ga,Db,e1,eq_true hq,eq_true hq2,t1,t2,t3,hs,hn,Uw,hb,hp,hh,lg,Dc,wa,wo,zo,tidy,Bc,Nx]
theorem jY (hb:Py bits i=true) (qs:List PV) (hp:ps[d]? =some (.lit 2 qs)) (hdl:d < ps.length) (hd:d < 4611686018427387904) (hh:Wk [.lit 2 qs,i64 x]=some (.bool true)):
 ga (ua call Db) (fun s=>some (tidy [2,4,8,9,16,17,18] s)) ⟨Nx (.lit 2 ss) x d bits len i left ends,A⟩=
  some (.norm,⟨Nx (.lit 2 ss) x d bits len (i+1:Nat) (VY left i) (ends||(ps.length==d+1)),A++[.box [.pv (.lit 1 ps),.pv (i64 first)]]⟩):=by
 have e1:decide ((i:Int) < (len:Int))=true:=Fa (by omega)
 have hq:Ia (i:Int) ss.length:=by unfold Ia;omega
 have t1:((i:Int)).toNat=i:=by simp
 have t2:=Ua hi hw
 have hn:((i:Int) < 0)=False:=by simp
 have hq2:Ia (d:Int) ps.length:=by unfold Ia;omega
 have t3:((d:Int)).toNat=d:=by simp
 have t4:IntKind.i64.wrap ((d:Int)+1)=((d+1:Nat):Int):=Ca (by omega)
 have t5:((ps.length:Int)==((d+1:Nat):Int))=(ps.length==d+1):=by
  rw[Bool.eq_iff_iff];simp;omega
 cases ends with
 |true=>simp -implicitDefEqProofs only[SP,SA,SQ,sevalprocAttr,ga,Db,e1,eq_true hq,eq_true hq2,t1,t2,t3,t4,t5,hs,hn,Uw,PJ,hb,hp,hh,lg,Dc,wa,wo,zo,tidy,Bc,Nx]
 |false=>simp -implicitDefEqProofs only[SP,SA,SQ,sevalprocAttr,ga,Db,e1,eq_true hq,eq_true hq2,t1,t2,t3,t4,t5,hs,hn,Uw,PJ,hb,hp,hh,lg,Dc,wa,wo,zo,tidy,Bc,Nx]
end
structure Lb where
 parts:List (List (Int×Int))
 first:Int
def oe (l:List (Int×Int)):PV:= .lit 2 (Hd l)
def Oe (s:Lb):PV:= .agg [.lit 1 (s.parts.map oe),i64 s.first]
def vM (l:List (Int×Int)) (x:Int):Bool:=(xf x 0 (ny l)).2
def vt (s:Lb) (d:Nat) (x:Int):Bool:=
 match s.parts[d]? with
 |some l=>vM l x
 |none=>false
def nh (x bits:Int) (d:Nat):Nat→List Lb→Int×Bool→Int×Bool
 |_,[],acc=>acc
 |i,s::r,acc=>nh x bits d (i+1) r (if Py bits i&&vt s d x then (VY acc.1 i,acc.2||(s.parts.length==d+1)) else acc)
theorem mI (l:List (Int×Int)):iz (.lit 2 (Hd l))=some l:=by
 have:Ra vz (Hd l)=some l:=by
  induction l with
  |nil=>rfl
  |cons p l ih=>simp only[Hd,List.map_cons,Ra,vz,Option.bind_some] at ih ⊢;rw[ih];rfl
 exact this
theorem OP {l:List (Int×Int)} (h:l.length * 16≤140737488355328) (x:Int):Wk [oe l,i64 x]=some (.bool (vM l x)):=by
 simp only[Wk,oe,mI,Option.bind_some,if_pos h];rfl
def bG (ss:List Lb):List ba:=ss.map fun s=> .box [.pv (.lit 1 (s.parts.map oe)),.pv (i64 s.first)]
section
variable (call:Wa) (H:List ba) (id:Nat) (rest:List AV) (S:PV) (ss:List Lb) (x bits:Int) (d:Nat)
 (hid:H[id]? =some (.box (.pv S::rest))) (hS:Vi 2 S (ss.map Oe)) (hw:ss.length≤maxLen) (hd:d < 4611686018427387904)
 (Ba:∀ i s,ss[i]? =some s→Py bits i=true→d < s.parts.length) (hsz:∀ s∈ss,∀ l∈s.parts,l.length * 16≤140737488355328)
include hid hS hw hd Ba hsz
theorem Vq:Ri call mi [.ptr id 0,.pv (.agg [i64 d,u32 bits]),.pv (i64 x)] H=
 some (.pv (.mc [u32 (nh x bits d 0 ss (0,false)).1,.bool (nh x bits d 0 ss (0,false)).2]),H++bG ss):=by
 have ls:=hS.len
 simp only[List.length_map] at ls
 have key:=al (g:=ga (ua call Db) (fun s=>some (tidy [2,4,8,9,16,17,18] s)))
  (fun i t=>∃ left ends,t=⟨Nx S x d bits ss.length i left ends,H++bG (ss.take i)⟩∧nh x bits d 0 ss (0,false)=nh x bits d i (ss.drop i) (left,ends))
  (fun ex t=>ex= .exit 0∧t=⟨(Nx S x d bits ss.length ss.length (nh x bits d 0 ss (0,false)).1 (nh x bits d 0 ss (0,false)).2).set 19 (.pv (.bool false)),H++bG ss⟩)
  qa ss.length 0 ⟨Nx S x d bits ss.length (0:Nat) 0 false,H⟩ (by unfold qa;unfold maxLen at hw;omega) (by omega) ⟨0,false,by simp[bG],rfl⟩ ?_ ?_
 ·obtain⟨ex,t,h,_,rfl,rfl⟩:=key
  generalize nh x bits d 0 ss (0,false)=r at *
  simp -implicitDefEqProofs only[SP,SA,SQ,sevalprocAttr,mi,ls,hid,Tp,tidy,Bc,Nx,h]
  simp only[Nx] at h
  have h':ab (ga (ua call Db) (fun s=>some (tidy [2,4,8,9,16,17,18] s))) qa ⟨((((((Tr.lf.set 18 (.pv (i64 0))).set 17 (.pv (i64 ss.length))).set 16 (.pv S)).set 9 (.pv (.bool false))).set 8 (.pv (u32 0))).set 4 (.pv (.rp [i64 d,u32 bits] 0))).set 2 (.pv (i64 x)),H⟩=_:=h
  simp only[tidy,Bc] at h'
  rw[h']
  simp -implicitDefEqProofs only[SP,SA,SQ,sevalprocAttr,Dc]
 ·rintro i hi t ⟨left,ends,rfl,hb⟩
  have hlit:=hS.lit (i:=i) (by simpa using hi)
  subst hlit
  have hg:(ss.map Oe)[i]? =some (.agg [.lit 1 (ss[i].parts.map oe),i64 ss[i].first]):=by simp[hi,Oe]
  have hdr:ss.drop i=ss[i]::ss.drop (i+1):=List.drop_eq_getElem_cons hi
  have hJ:H++bG (ss.take (i+1))=H++bG (ss.take i)++[.box [.pv (.lit 1 (ss[i].parts.map oe)),.pv (i64 ss[i].first)]]:=by
   rw[List.take_succ_eq_append_getElem hi,bG,List.map_append,List.append_assoc];rfl
  rw[hdr,nh] at hb
  cases hbit:Py bits i with
  |false=>
   rw[hbit] at hb
   refine .inl ⟨_,MW call _ _ x bits left d ends i ss.length hi (by simp) hw _ _ hg hbit,left,ends,by rw[hJ],hb⟩
  |true=>
   have hdl:=Ba i ss[i] (by simp[hi]) hbit
   have hp:(ss[i].parts.map oe)[d]? =some (.lit 2 (Hd ss[i].parts[d])):=by simp[hdl,oe]
   have hc:=OP (hsz ss[i] (List.getElem_mem hi) ss[i].parts[d] (List.getElem_mem hdl)) x
   have hat:vt ss[i] d x=vM ss[i].parts[d] x:=by simp[vt,hdl]
   rw[hbit,hat,Bool.true_and] at hb
   cases hh:vM ss[i].parts[d] x with
   |false=>
    rw[hh] at hb hc
    refine .inl ⟨_,VV call _ _ x bits left d ends i ss.length hi (by simp) hw _ _ hg hbit _ hp (by simpa using hdl) hd hc,left,ends,by rw[hJ],hb⟩
   |true=>
    rw[hh] at hb hc
    refine .inl ⟨_,jY call _ _ x bits left d ends i ss.length hi (by simp) hw _ _ hg hbit _ hp (by simpa using hdl) hd hc,_,_,by rw[hJ],?_⟩
    rw[hb]
    simp
 ·rintro t ⟨left,ends,rfl,hb⟩
  rw[List.drop_length] at hb
  simp only[nh] at hb
  refine⟨.exit 0,_,?_,rfl,rfl,rfl⟩
  rw[hb,List.take_length]
  have e1:decide ((ss.length:Int) < (ss.length:Int))=false:=Ga (by omega)
  simp -implicitDefEqProofs only[SP,SA,SQ,sevalprocAttr,ga,Db,e1,Nx]
end
end Go.AM.B1
namespace Go.AM.B1
open Go.AM
abbrev Al:=Nat×Int
def Zh (a:Al):PV:= .agg [i64 a.1,u32 a.2]
def mC (l:List Al) (k:Nat):List (PV×PV):=(l.zipIdx k).map fun p=>(Zh p.1,i64 p.2)
theorem NA (a:Al) (l:List Al) (k:Nat):mC (a::l) k=(Zh a,i64 k)::mC l (k+1):=rfl
theorem nH (a:Al):∀ (l:List Al) (k:Nat),mC (l++[a]) k=mC l k++[(Zh a,i64 (k+l.length:Nat))]
 | [],k=>by simp[mC]
 |b::l,k=>by rw[List.cons_append,NA,nH a l (k+1),NA];simp;omega
theorem EC (a b:Al):Zk (.row [1,1]) (Zh a) (Zh b)=some (decide (a=b)):=by
 obtain⟨a1,a2⟩:=a;obtain⟨b1,b2⟩:=b
 simp only[Zh,Zk,Xi,js,if_true,Option.bind_some,Option.map_some,Bool.and_true,Prod.mk.injEq,Bool.decide_and]
 congr 1
 rw[Bool.eq_iff_iff]
 simp
 intro _
 omega
def cm (a:Al):List Al→Nat→Option Nat
 | [],_=>none
 |b::l,k=>if a=b then some k else cm a l (k+1)
theorem AI (a:Al):∀ (l:List Al) (k j:Nat),zm (.row [1,1]) (Zh a) (mC l k) j=some ((cm a l k).map fun i=>(j+(i - k),i64 i)):=by
 intro l
 induction l with
 |nil=>intro k j;rfl
 |cons b l ih=>
  intro k j
  rw[NA,zm,EC]
  simp only[Option.bind_some,cm]
  by_cases h:a=b
  ·simp[h]
  ·rw[if_neg h,ih]
   simp only[h,decide_false,Bool.false_eq_true,if_false,Option.some.injEq]
   cases hi:cm a l (k+1) with
   |none=>rfl
   |some i=>
    have:k+1≤i:=by
     clear ih
     induction l generalizing k with
     |nil=>simp[cm] at hi
     |cons c l ihl=>
      simp only[cm] at hi
      split at hi
      ·injection hi with hi;omega
      ·have:=ihl (k+1) hi;omega
    simp only[Option.map_some,Option.some.injEq,Prod.mk.injEq,and_true]
    omega
abbrev Hj (R0 R1:ba) (S:PV) (nl:Bool) (sets:List Al) (rows:ba) (n:Nat) (T:List ba):List ba:=
 R0::R1:: .map (mC sets 0):: .box [.pv S,.mp 2,.uq 4 nl 2 (sets.map Zh),.own 5 n]:: .tok 2 sets.length nl::rows::T
section
variable (call:Wa) (R0 R1:ba) (S:PV) (nl:Bool) (sets:List Al) (rows:ba) (n:Nat) (T:List ba) (a:Al)
theorem nW {i:Nat} (h:cm a sets 0=some i):
 Ri call Od [.ptr 3 0,.pv (Zh a)] (Hj R0 R1 S nl sets rows n T)=some (.pv (.mc [i64 i,.bool true]),Hj R0 R1 S nl sets rows n T):=by
 have hf:=AI a sets 0 0
 rw[h] at hf
 simp only[Option.map_some] at hf
 have hk:(Zk (.row [1,1]) (Zh a) (Zh a)).isSome=true:=by rw[EC];rfl
 simp only[Zh] at hf hk
 simp -implicitDefEqProofs only[SP,SA,SQ,sevalprocAttr,Zh,Od,hf,eq_true hk]
theorem jV (h:cm a sets 0=none) (hl:sets.length=64):
 Ri call Od [.ptr 3 0,.pv (Zh a)] (Hj R0 R1 S nl sets rows n T)=some (.pv (.mc [i64 0,.bool false]),Hj R0 R1 S nl sets rows n T):=by
 have hf:=AI a sets 0 0
 rw[h] at hf
 simp only[Option.map_none] at hf
 have hk:(Zk (.row [1,1]) (Zh a) (Zh a)).isSome=true:=by rw[EC];rfl
 have e1:(((sets.map Zh).length:Int)==64)=true:=by simp[hl]
 simp only[Zh] at hf hk
 simp -implicitDefEqProofs only[SP,SA,SQ,sevalprocAttr,Od,Zh,hf,eq_true hk,e1]
theorem dO (h:cm a sets 0=none) (hl:sets.length < 64):
 Ri call Od [.ptr 3 0,.pv (Zh a)] (Hj R0 R1 S nl sets rows n T)=some (.pv (.mc [i64 sets.length,.bool true]),Hj R0 R1 S false (sets++[a]) rows n T):=by
 have hf:=AI a sets 0 0
 rw[h] at hf
 simp only[Option.map_none] at hf
 have hk:(Zk (.row [1,1]) (Zh a) (Zh a)).isSome=true:=by rw[EC];rfl
 have e1:((sets.length:Int)==64)=false:=vi (by omega)
 have hp:=nH a sets 0
 rw[Nat.zero_add] at hp
 have q1:qb (sets.length+1) 16:=by unfold qb;omega
 have hlen:(sets.map Zh).length=sets.length:=by simp
 have hlen2:(sets++[a]).length=sets.length+1:=by simp
 have hmap:(sets++[a]).map Zh=sets.map Zh++[Zh a]:=by simp
 unfold Hj
 rw[hp,hlen2,hmap]
 simp only[Zh] at hf hk ⊢
 simp -implicitDefEqProofs only[SP,SA,SQ,sevalprocAttr,Od,hf,eq_true hk,e1,hlen,eq_true q1,si,AV.CC,AV.Ip]
end
end Go.AM.B1
namespace Go.AM.B1
open Go.AM
theorem Lm (n:Nat) (cs:List AV):na n (.box cs)=(Ra (AV.cut n deep) cs).map .box:=rfl
theorem an (n:Nat) (es:List (PV×PV)):na n (.map es)=some (.map es):=rfl
theorem Vt (n sz:Nat) (ag:Bool) (cs:List AV) (fl:Nat) (nl:Bool):na n (.seq sz ag cs fl nl)=if cs.all (AV.Je n deep)=true then some (.seq sz ag cs fl nl) else none:=rfl
theorem qn (n sz m:Nat) (nl:Bool):na n (.tok sz m nl)=some (.tok sz m nl):=rfl
def Hg (ss:List Lb) (a:Al) (x:Int) (sets:List Al):Option (List Al×Int):=
 if (nh x a.2 a.1 0 ss (0,false)).1=0 then some (sets,-2)
 else if (nh x a.2 a.1 0 ss (0,false)).2=true then some (sets,-1)
 else match cm (a.1+1,(nh x a.2 a.1 0 ss (0,false)).1) sets 0 with
  |some k=>some (sets,(k:Int))
  |none=>if sets.length < 64 then some (sets++[(a.1+1,(nh x a.2 a.1 0 ss (0,false)).1)],(sets.length:Int)) else none
inductive xu (k:Nat) (v:AV) (o:ba):Option (Ex×St)→Prop
 |mk (s:St):s.env.get k=v→s.H[0]? =some o→xu k v o (some (.ret,s))
theorem pF {k:Nat} {v:AV} {o:ba} {s:St}:xu k v o (some (.ret,s))=(s.env.get k=v∧s.H[0]? =some o):=
 propext ⟨fun h=>by cases h with | mk _ h h'=>exact⟨h,h'⟩,fun h=> .mk s h.1 h.2⟩
theorem mr {k:Nat} {v:AV} {o:ba} {r:Option (Ex×St)} (h:xu k v o r):∃ t,r=some (.ret,t)∧t.env.get k=v∧t.H[0]? =some o:=by
 cases h with | mk s h h'=>exact⟨s,rfl,h,h'⟩
def Ka (l:List Int):List AV:=l.map fun n=> .pv (i64 n)
theorem aj (l:List Int) (x:Nat) (v:Int):(Ka l).set x (.pv (i64 v))=Ka (l.set x v):=by simp[Ka,List.map_set]
theorem pb (l:List Int):(Ka l).length=l.length:=by simp[Ka]
theorem Oq (n d:Nat) (l:List Int):Ra (AV.cut n d) (Ka l)=some (Ka l):=by
 induction l with
 |nil=>rfl
 |cons a l ih=>simp only[Ka,List.map_cons,Ra,Ma,Option.bind_some] at ih ⊢;rw[ih];rfl
abbrev Cm (i x:Int):Tr:=(((Tr.lf.set 30 (.pv (i64 x))).set 4 (.ptr 6 0)).set 3 (.pv (i64 i))).set 0 (.ptr 3 0)
section
variable (R0 R1:ba) (S:PV) (nl:Bool) (sets:List Al) (rows:ba) (n:Nat) (row:List Int) (ss:List Lb) (i x:Nat) (a:Al)
 (h0:na 7 R0=some R0) (h1:na 7 R1=some R1) (hr:na 7 rows=some rows) (hrow:row.length=256) (hx:x < 256)
 (hi:i < sets.length) (ha:(sets.map Zh)[i]? =some (.agg [i64 a.1,u32 a.2])) (had:a.1 < 4611686018427387904)
 (hS:Vi 2 S (ss.map Oe)) (hw:ss.length≤maxLen)
 (Ba:∀ i s,ss[i]? =some s→Py a.2 i=true→a.1 < s.parts.length) (hsz:∀ s∈ss,∀ l∈s.parts,l.length * 16≤140737488355328)
include h0 h1 hr hrow hx hi ha had hS hw Ba hsz
theorem YR (hb:(nh x a.2 a.1 0 ss (0,false)).1=0):
 Nc (Ea Da 7) [0,3,4,30] La 7 ⟨Cm i x,Hj R0 R1 S nl sets rows n [.box (Ka row)]⟩=
  some (.norm,⟨Cm i (x+1:Nat),Hj R0 R1 S nl sets rows n [.box (Ka (row.set x (-2)))]⟩):=by
 have e1:decide ((x:Int) < 256)=true:=Fa (by omega)
 have hlen:(sets.map Zh).length=sets.length:=by simp
 have hq:Ia (i:Int) sets.length:=by unfold Ia;omega
 have hq2:Ia (x:Int) 256:=by unfold Ia;omega
 have t1:((i:Int)).toNat=i:=by simp
 have t3:((x:Int)).toNat=x:=by simp
 have t2:=Ua (i:=x) (n:=256) hx (by unfold maxLen;omega)
 have hbeh:=Vq (Ea Da 6) (Hj R0 R1 S nl sets rows n [.box (Ka row)]) 3 _ S ss x a.2 a.1 rfl hS hw had Ba hsz
 rw[hb] at hbeh
 have hle:x+1≤(Ka row).length:=by rw[pb];omega
 have hz:(((0:Nat)+x+1)≤(Ka row).length)=True:=by simp only[eq_iff_iff,iff_true];omega
 simp only[Hj,List.cons_append,List.nil_append] at hbeh
 generalize (nh x a.2 a.1 0 ss (0,false)).2=ends at *
 simp -implicitDefEqProofs only[SP,SA,SQ,sevalprocAttr,Nc,ga,La,Da,e1,hlen,eq_true hq,eq_true hq2,t1,t2,t3,ha,hbeh,hz,eq_true hle,aj,wa,fa,Aa,Lm,an,qn,Ma,Oq,AV.cut,Dc,h0,h1,hr,Cm,Hj]
theorem OS (hb:(nh x a.2 a.1 0 ss (0,false)).1≠0) (hb2:(nh x a.2 a.1 0 ss (0,false)).2=true):
 Nc (Ea Da 7) [0,3,4,30] La 7 ⟨Cm i x,Hj R0 R1 S nl sets rows n [.box (Ka row)]⟩=
  some (.norm,⟨Cm i (x+1:Nat),Hj R0 R1 S nl sets rows n [.box (Ka (row.set x (-1)))]⟩):=by
 have e1:decide ((x:Int) < 256)=true:=Fa (by omega)
 have hlen:(sets.map Zh).length=sets.length:=by simp
 have hq:Ia (i:Int) sets.length:=by unfold Ia;omega
 have hq2:Ia (x:Int) 256:=by unfold Ia;omega
 have t1:((i:Int)).toNat=i:=by simp
 have t3:((x:Int)).toNat=x:=by simp
 have t2:=Ua (i:=x) (n:=256) hx (by unfold maxLen;omega)
 have hbeh:=Vq (Ea Da 6) (Hj R0 R1 S nl sets rows n [.box (Ka row)]) 3 _ S ss x a.2 a.1 rfl hS hw had Ba hsz
 rw[hb2] at hbeh
 have hle:x+1≤(Ka row).length:=by rw[pb];omega
 have hz:(((0:Nat)+x+1)≤(Ka row).length)=True:=by simp only[eq_iff_iff,iff_true];omega
 simp only[Hj,List.cons_append,List.nil_append] at hbeh
 have e4:=vi hb
 generalize (nh x a.2 a.1 0 ss (0,false)).1=left at *
 simp -implicitDefEqProofs only[SP,SA,SQ,sevalprocAttr,Nc,ga,La,Da,e1,hlen,eq_true hq,eq_true hq2,t1,t2,t3,ha,hbeh,e4,hz,eq_true hle,aj,wa,fa,Aa,Lm,an,qn,Ma,Oq,AV.cut,Dc,h0,h1,hr,Cm,Hj]
theorem ES (hb:(nh x a.2 a.1 0 ss (0,false)).1≠0) (hb2:(nh x a.2 a.1 0 ss (0,false)).2=false) {k:Nat} (hk:cm (a.1+1,(nh x a.2 a.1 0 ss (0,false)).1) sets 0=some k):
 Nc (Ea Da 7) [0,3,4,30] La 7 ⟨Cm i x,Hj R0 R1 S nl sets rows n [.box (Ka row)]⟩=
  some (.norm,⟨Cm i (x+1:Nat),Hj R0 R1 S nl sets rows n [.box (Ka (row.set x k))]⟩):=by
 have e1:decide ((x:Int) < 256)=true:=Fa (by omega)
 have hlen:(sets.map Zh).length=sets.length:=by simp
 have hq:Ia (i:Int) sets.length:=by unfold Ia;omega
 have hq2:Ia (x:Int) 256:=by unfold Ia;omega
 have t1:((i:Int)).toNat=i:=by simp
 have t3:((x:Int)).toNat=x:=by simp
 have t2:=Ua (i:=x) (n:=256) hx (by unfold maxLen;omega)
 have hbeh:=Vq (Ea Da 6) (Hj R0 R1 S nl sets rows n [.box (Ka row)]) 3 _ S ss x a.2 a.1 rfl hS hw had Ba hsz
 rw[hb2] at hbeh
 have hle:x+1≤(Ka row).length:=by rw[pb];omega
 have hz:(((0:Nat)+x+1)≤(Ka row).length)=True:=by simp only[eq_iff_iff,iff_true];omega
 simp only[Hj,List.cons_append,List.nil_append] at hbeh
 have e4:=vi hb
 have t5:IntKind.i64.wrap ((a.1:Int)+1)=((a.1+1:Nat):Int):=Ca (by omega)
 have hmet:=nW (Ea Da 6) R0 R1 S nl sets rows n (.box (Ka row)::bG ss) (a.1+1,(nh x a.2 a.1 0 ss (0,false)).1) hk
 simp only[Hj,Zh] at hmet
 generalize (nh x a.2 a.1 0 ss (0,false)).1=left at *
 simp -implicitDefEqProofs only[SP,SA,SQ,sevalprocAttr,Nc,ga,La,Da,e1,hlen,eq_true hq,eq_true hq2,t1,t2,t3,ha,hbeh,hmet,t5,e4,hz,eq_true hle,aj,wa,fa,Aa,Lm,an,qn,Ma,Oq,AV.cut,Dc,h0,h1,hr,Cm,Hj]
theorem aV (hb:(nh x a.2 a.1 0 ss (0,false)).1≠0) (hb2:(nh x a.2 a.1 0 ss (0,false)).2=false) (hk:cm (a.1+1,(nh x a.2 a.1 0 ss (0,false)).1) sets 0=none) (hl:sets.length < 64):
 Nc (Ea Da 7) [0,3,4,30] La 7 ⟨Cm i x,Hj R0 R1 S nl sets rows n [.box (Ka row)]⟩=
  some (.norm,⟨Cm i (x+1:Nat),Hj R0 R1 S false (sets++[(a.1+1,(nh x a.2 a.1 0 ss (0,false)).1)]) rows n [.box (Ka (row.set x (sets.length:Int)))]⟩):=by
 have e1:decide ((x:Int) < 256)=true:=Fa (by omega)
 have hlen:(sets.map Zh).length=sets.length:=by simp
 have hq:Ia (i:Int) sets.length:=by unfold Ia;omega
 have hq2:Ia (x:Int) 256:=by unfold Ia;omega
 have t1:((i:Int)).toNat=i:=by simp
 have t3:((x:Int)).toNat=x:=by simp
 have t2:=Ua (i:=x) (n:=256) hx (by unfold maxLen;omega)
 have hbeh:=Vq (Ea Da 6) (Hj R0 R1 S nl sets rows n [.box (Ka row)]) 3 _ S ss x a.2 a.1 rfl hS hw had Ba hsz
 rw[hb2] at hbeh
 have hle:x+1≤(Ka row).length:=by rw[pb];omega
 have hz:(((0:Nat)+x+1)≤(Ka row).length)=True:=by simp only[eq_iff_iff,iff_true];omega
 simp only[Hj,List.cons_append,List.nil_append] at hbeh
 have e4:=vi hb
 have t5:IntKind.i64.wrap ((a.1:Int)+1)=((a.1+1:Nat):Int):=Ca (by omega)
 have hmet:=dO (Ea Da 6) R0 R1 S nl sets rows n (.box (Ka row)::bG ss) (a.1+1,(nh x a.2 a.1 0 ss (0,false)).1) hk hl
 simp only[Hj,Zh] at hmet ⊢
 generalize (nh x a.2 a.1 0 ss (0,false)).1=left at *
 simp -implicitDefEqProofs only[SP,SA,SQ,sevalprocAttr,Nc,ga,La,Da,e1,hlen,eq_true hq,eq_true hq2,t1,t2,t3,ha,hbeh,hmet,t5,e4,hz,eq_true hle,aj,wa,fa,Aa,Lm,an,qn,Ma,Oq,AV.cut,Dc,h0,h1,hr,Cm,Hj]
end
section
variable (R0 R1:ba) (S:PV) (nl:Bool) (sets:List Al) (rows:ba) (n:Nat) (row:List Int) (ss:List Lb) (i x:Nat) (a:Al)
 (hrow:row.length=256) (hx:x < 256)
 (hi:i < sets.length) (ha:(sets.map Zh)[i]? =some (.agg [i64 a.1,u32 a.2])) (had:a.1 < 4611686018427387904)
 (hS:Vi 2 S (ss.map Oe)) (hw:ss.length≤maxLen)
 (Ba:∀ i s,ss[i]? =some s→Py a.2 i=true→a.1 < s.parts.length) (hsz:∀ s∈ss,∀ l∈s.parts,l.length * 16≤140737488355328)
include hrow hx hi ha had hS hw Ba hsz
theorem CQ (hb:(nh x a.2 a.1 0 ss (0,false)).1≠0) (hb2:(nh x a.2 a.1 0 ss (0,false)).2=false) (hk:cm (a.1+1,(nh x a.2 a.1 0 ss (0,false)).1) sets 0=none) (hl:sets.length=64):
 xu 2 (.pv (.bool false)) R0 (Nc (Ea Da 7) [0,3,4,30] La 7 ⟨Cm i x,Hj R0 R1 S nl sets rows n [.box (Ka row)]⟩):=by
 have e1:decide ((x:Int) < 256)=true:=Fa (by omega)
 have hlen:(sets.map Zh).length=sets.length:=by simp
 have hq:Ia (i:Int) sets.length:=by unfold Ia;omega
 have hq2:Ia (x:Int) 256:=by unfold Ia;omega
 have t1:((i:Int)).toNat=i:=by simp
 have t3:((x:Int)).toNat=x:=by simp
 have t2:=Ua (i:=x) (n:=256) hx (by unfold maxLen;omega)
 have hbeh:=Vq (Ea Da 6) (Hj R0 R1 S nl sets rows n [.box (Ka row)]) 3 _ S ss x a.2 a.1 rfl hS hw had Ba hsz
 rw[hb2] at hbeh
 have hle:x+1≤(Ka row).length:=by rw[pb];omega
 have hz:(((0:Nat)+x+1)≤(Ka row).length)=True:=by simp only[eq_iff_iff,iff_true];omega
 simp only[Hj,List.cons_append,List.nil_append] at hbeh
 have e4:=vi hb
 have t5:IntKind.i64.wrap ((a.1:Int)+1)=((a.1+1:Nat):Int):=Ca (by omega)
 have hmet:=jV (Ea Da 6) R0 R1 S nl sets rows n (.box (Ka row)::bG ss) (a.1+1,(nh x a.2 a.1 0 ss (0,false)).1) hk hl
 simp only[Hj,Zh] at hmet
 generalize (nh x a.2 a.1 0 ss (0,false)).1=left at *
 simp -implicitDefEqProofs only[SP,SA,SQ,sevalprocAttr,Nc,ga,La,Da,e1,hlen,eq_true hq,eq_true hq2,t1,t2,t3,ha,hbeh,hmet,t5,e4,pF,hz,eq_true hle,aj,wa,Cm,Hj]
end
end Go.AM.B1
namespace Go.AM.B1
open Go.AM
def Pk (ss:List Lb) (a:Al):List Nat→List Al×List Int→Option (List Al×List Int)
 | [],r=>some r
 |x::xs,r=>match Hg ss a x r.1 with
  |some p=>Pk ss a xs (p.1,r.2.set x p.2)
  |none=>none
theorem Tt {ss:List Lb} {a:Al} {x:Nat} {xs:List Nat} {r:List Al×List Int} (h:Hg ss a x r.1=none):Pk ss a (x::xs) r=none:=by
 rw[Pk,h]
theorem ft {ss:List Lb} {a:Al} {x:Nat} {xs:List Nat} {r:List Al×List Int} {p:List Al×Int} (h:Hg ss a x r.1=some p):Pk ss a (x::xs) r=Pk ss a xs (p.1,r.2.set x p.2):=by
 rw[Pk,h]
theorem Jq {n x:Nat} (h:x < n):(List.range n).drop x=x::(List.range n).drop (x+1):=by
 rw[List.drop_eq_getElem_cons (by simpa using h)];simp
theorem YB {ss:List Lb} {a:Al} {x:Int} {sets:List Al} {r:List Al×Int} (h:Hg ss a x sets=some r) (hl:sets.length≤64):r.1.length≤64∧∃ t,r.1=sets++t:=by
 unfold Hg at h
 split at h
 ·injection h with h;subst h;exact⟨hl,[],by simp⟩
 ·split at h
  ·injection h with h;subst h;exact⟨hl,[],by simp⟩
  ·split at h
   ·injection h with h;subst h;exact⟨hl,[],by simp⟩
   ·split at h
    ·injection h with h;subst h;exact⟨by simp;omega,_,rfl⟩
    ·cases h
section
variable (R0 R1:ba) (S:PV) (rows:ba) (n:Nat) (ss:List Lb)
 (h0:na 7 R0=some R0) (h1:na 7 R1=some R1) (hr:na 7 rows=some rows)
 (hS:Vi 2 S (ss.map Oe)) (hw:ss.length≤maxLen)
 (hsz:∀ s∈ss,∀ l∈s.parts,l.length * 16≤140737488355328)
include h0 h1 hr hS hw hsz
theorem kN {nl:Bool} {sets:List Al} {row:List Int} {i x:Nat} {a:Al} (hrow:row.length=256) (hx:x < 256) (ha:sets[i]? =some a) (had:a.1 < 4611686018427387904) (hl:sets.length≤64)
 (Ba:∀ i s,ss[i]? =some s→Py a.2 i=true→a.1 < s.parts.length):
 (∀ r,Hg ss a x sets=some r→∃ nl',Nc (Ea Da 7) [0,3,4,30] La 7 ⟨Cm i x,Hj R0 R1 S nl sets rows n [.box (Ka row)]⟩=
  some (.norm,⟨Cm i (x+1:Nat),Hj R0 R1 S nl' r.1 rows n [.box (Ka (row.set x r.2))]⟩))∧
 (Hg ss a x sets=none→xu 2 (.pv (.bool false)) R0 (Nc (Ea Da 7) [0,3,4,30] La 7 ⟨Cm i x,Hj R0 R1 S nl sets rows n [.box (Ka row)]⟩)):=by
 have hi:i < sets.length:=(List.getElem?_eq_some_iff.1 ha).1
 have ha':(sets.map Zh)[i]? =some (.agg [i64 a.1,u32 a.2]):=by rw[List.getElem?_map,ha];rfl
 by_cases hb:(nh x a.2 a.1 0 ss (0,false)).1=0
 ·have hst:=(show Hg ss a x sets=some (sets,-2) by unfold Hg;rw[if_pos hb])
  rw[hst]
  exact⟨fun r e=>by injection e with e;subst e;exact⟨nl,YR R0 R1 S nl sets rows n row ss i x a h0 h1 hr hrow hx hi ha' had hS hw Ba hsz hb⟩,fun e=>by cases e⟩
 by_cases hb2:(nh x a.2 a.1 0 ss (0,false)).2=true
 ·have hst:=(show Hg ss a x sets=some (sets,-1) by unfold Hg;rw[if_neg hb,if_pos hb2])
  rw[hst]
  exact⟨fun r e=>by injection e with e;subst e;exact⟨nl,OS R0 R1 S nl sets rows n row ss i x a h0 h1 hr hrow hx hi ha' had hS hw Ba hsz hb hb2⟩,fun e=>by cases e⟩
 have hb3:(nh x a.2 a.1 0 ss (0,false)).2=false:=by simpa using hb2
 cases hk:cm (a.1+1,(nh x a.2 a.1 0 ss (0,false)).1) sets 0 with
 |some k=>
  have hst:=(show Hg ss a x sets=some (sets,(k:Int)) by unfold Hg;rw[if_neg hb,if_neg hb2,hk])
  rw[hst]
  exact⟨fun r e=>by injection e with e;subst e;exact⟨nl,ES R0 R1 S nl sets rows n row ss i x a h0 h1 hr hrow hx hi ha' had hS hw Ba hsz hb hb3 hk⟩,fun e=>by cases e⟩
 |none=>
  by_cases hlt:sets.length < 64
  ·have hst:=(show Hg ss a x sets=some (sets++[(a.1+1,(nh x a.2 a.1 0 ss (0,false)).1)],(sets.length:Int)) by unfold Hg;rw[if_neg hb,if_neg hb2,hk];simp only[if_pos hlt])
   rw[hst]
   exact⟨fun r e=>by injection e with e;subst e;exact⟨false,aV R0 R1 S nl sets rows n row ss i x a h0 h1 hr hrow hx hi ha' had hS hw Ba hsz hb hb3 hk hlt⟩,fun e=>by cases e⟩
  ·have hst:=(show Hg ss a x sets=none by unfold Hg;rw[if_neg hb,if_neg hb2,hk];simp only[if_neg hlt])
   rw[hst]
   exact⟨fun r e=>(by cases e),fun _=>CQ R0 R1 S nl sets rows n row ss i x a hrow hx hi ha' had hS hw Ba hsz hb hb3 hk (by omega)⟩
theorem ZU {nl:Bool} {sets:List Al} {row:List Int} {i:Nat} {a:Al} (hrow:row.length=256) (ha:sets[i]? =some a) (had:a.1 < 4611686018427387904) (hl:sets.length≤64)
 (Ba:∀ i s,ss[i]? =some s→Py a.2 i=true→a.1 < s.parts.length):
 (∀ r,Pk ss a (List.range 256) (sets,row)=some r→∃ nl',ab (ga (ua (Ea Da 7) La) (fa 7 [0,3,4,30])) qa ⟨Cm i 0,Hj R0 R1 S nl sets rows n [.box (Ka row)]⟩=
  some (.exit 2,⟨(Cm i 256).set 31 (.pv (.bool false)),Hj R0 R1 S nl' r.1 rows n [.box (Ka r.2)]⟩)∧r.1.length≤64∧r.2.length=256∧∃ t,r.1=sets++t)∧
 (Pk ss a (List.range 256) (sets,row)=none→xu 2 (.pv (.bool false)) R0 (ab (ga (ua (Ea Da 7) La) (fa 7 [0,3,4,30])) qa ⟨Cm i 0,Hj R0 R1 S nl sets rows n [.box (Ka row)]⟩)):=by
 generalize hxs:List.range 256=xs
 have key:=al (g:=Nc (Ea Da 7) [0,3,4,30] La 7)
  (fun x t=>∃ nl' sets' row',t=⟨Cm i x,Hj R0 R1 S nl' sets' rows n [.box (Ka row')]⟩∧Pk ss a xs (sets,row)=Pk ss a (xs.drop x) (sets',row')∧sets'.length≤64∧row'.length=256∧∃ t,sets'=sets++t)
  (fun ex t=>(∃ r,ex= .exit 2∧Pk ss a xs (sets,row)=some r∧∃ nl',t=⟨(Cm i 256).set 31 (.pv (.bool false)),Hj R0 R1 S nl' r.1 rows n [.box (Ka r.2)]⟩∧r.1.length≤64∧r.2.length=256∧∃ t,r.1=sets++t)∨
   (ex= .ret∧Pk ss a xs (sets,row)=none∧t.env.get 2= .pv (.bool false)∧t.H[0]? =some R0))
  qa 256 0 ⟨Cm i (0:Nat),Hj R0 R1 S nl sets rows n [.box (Ka row)]⟩ (by unfold qa;omega) (by omega) ⟨nl,sets,row,rfl,rfl,hl,hrow,[],by simp⟩ ?_ ?_
 ·obtain⟨ex,t,h,_,hq⟩:=key
  have h':ab (ga (ua (Ea Da 7) La) (fa 7 [0,3,4,30])) qa ⟨Cm i 0,Hj R0 R1 S nl sets rows n [.box (Ka row)]⟩=some (ex,t):=h
  rw[h']
  rcases hq with⟨r,rfl,hr',nl',rfl,q1,q2,q3⟩ | ⟨rfl,hr',hg,hg2⟩
  ·refine⟨fun r2 e=> ?_,fun e=> ?_⟩
   ·rw[hr'] at e;injection e with e;subst e;exact⟨nl',rfl,q1,q2,q3⟩
   ·rw[hr'] at e;cases e
  ·refine⟨fun r2 e=> ?_,fun _=> .mk _ hg hg2⟩
   rw[hr'] at e;cases e
 ·rintro x hx t ⟨nl',sets',row',rfl,hrs,hl',hrow',tl,hts⟩
  have ha':sets'[i]? =some a:=by
   rw[hts,List.getElem?_append_left (List.getElem?_eq_some_iff.1 ha).1];exact ha
  have hd:=Jq hx
  rw[hxs] at hd
  have hsr:=kN R0 R1 S rows n ss h0 h1 hr hS hw hsz (nl:=nl') hrow' hx ha' had hl' Ba
  rw[hd] at hrs
  cases hst:Hg ss a x sets' with
  |none=>
   rw[Tt hst] at hrs
   obtain⟨t,g1,g2,g3⟩:=mr (hsr.2 hst)
   exact .inr ⟨.ret,t,g1,rfl,.inr ⟨rfl,hrs,g2,g3⟩⟩
  |some r=>
   rw[ft hst] at hrs
   obtain⟨nl2,g1⟩:=hsr.1 r hst
   obtain⟨k1,t2,k2⟩:=YB hst hl'
   exact .inl ⟨_,g1,nl2,r.1,row'.set x r.2,rfl,hrs,k1,by simpa using hrow',tl++t2,by rw[k2,hts,List.append_assoc]⟩
 ·rintro t ⟨nl',sets',row',rfl,hrs,hl',hrow',tl,hts⟩
  rw[List.drop_eq_nil_of_le (by rw[← hxs,List.length_range];exact Nat.le_refl _)] at hrs
  refine⟨.exit 2,_,?_,rfl,.inl ⟨(sets',row'),rfl,hrs,nl',rfl,hl',hrow',tl,hts⟩⟩
  have e1:decide (((256:Nat):Int) < 256)=false:=by decide
  simp -implicitDefEqProofs only[SP,SA,SQ,sevalprocAttr,Nc,ga,La,e1,Cm,Hj]
end
end Go.AM.B1
namespace Go.AM.B1
open Go.AM
def Rg (rs:List (List Int)):ba:= .seq 256 true (rs.flatMap Ka) 0 rs.isEmpty
theorem ct (l:List Int):Ka l=(l.map i64).map .pv:=by simp[Ka]
theorem eu (l:List Int):ve (Ka l)=some (l.map i64):=by
 rw[ct]
 induction l with
 |nil=>rfl
 |cons a l ih=>simp only[List.map_cons,ve,ih,Option.map_some]
theorem wF (l:List Int):(Ka l).all AV.one=true:=by
 induction l with
 |nil=>rfl
 |cons a l ih=>simp only[Ka,List.map_cons,List.all_cons,AV.one,Bool.true_and] at ih ⊢;exact ih
theorem KY:List.map AV.pv (List.replicate 256 (PV.int .i64 0))=Ka (List.replicate 256 0):=by
 simp only[Ka,List.map_replicate]
theorem yy {α:Type}:∀ (vs cs pre:List α),cs.length=vs.length→oa (pre++cs) pre.length vs=pre++vs
 | [],cs,pre,h=>by simp at h;subst h;rfl
 |v::vs,c::cs,pre,h=>by
  rw[oa]
  have h1:(pre++c::cs).set pre.length v=(pre++[v])++cs:=by
   rw[List.set_append_right _ _ (Nat.le_refl _)];simp
  rw[h1]
  have:=yy vs cs (pre++[v]) (by simpa using h)
  simp only[List.length_append,List.length_cons,List.length_nil,Nat.zero_add] at this
  rw[this];simp
 |_::_,[],_,h=>by simp at h
theorem zw (n d:Nat) (rs:List (List Int)):(rs.flatMap Ka).all (AV.Je n d)=true:=by
 rw[List.all_eq_true]
 intro v hv
 rw[List.mem_flatMap] at hv
 obtain⟨r,_,hv⟩:=hv
 simp only[Ka,List.mem_map] at hv
 obtain⟨x,_,rfl⟩:=hv
 cases d <;> rfl
theorem CD:∀ {rs:List (List Int)},(∀ r∈rs,r.length=256)→(rs.flatMap Ka).length=rs.length * 256
 | [],_=>rfl
 |r::rs,h=>by
  have:=CD (rs:=rs) (fun x hx=>h x (by simp[hx]))
  simp only[List.flatMap_cons,List.length_append,pb,h r (by simp),this,List.length_cons]
  omega
abbrev EA (i:Int):Tr:=(Tr.lf.set 3 (.pv (i64 i))).set 0 (.ptr 3 0)
section
variable (R0 R1:ba) (S:PV) (nl:Bool) (sets:List Al) (rs:List (List Int)) (ss:List Lb) (i:Nat)
 (h0:na 7 R0=some R0) (h1:na 7 R1=some R1) (g0:na 6 R0=some R0) (g1:na 6 R1=some R1)
 (hi:i < sets.length) (hl:sets.length≤64) (hrl:rs.length≤64) (hrr:∀ r∈rs,r.length=256)
include h0 h1 g0 g1 hi hl hrl hrr
theorem FP (nl':Bool) (sets':List Al) (row:List Int) (hrow:row.length=256)
 (hrowL:ab (ga (ua (Ea Da 7) La) (fa 7 [0,3,4,30])) qa ⟨Cm i 0,Hj R0 R1 S nl sets (Rg rs) rs.length [.box (Ka (List.replicate 256 0))]⟩=
  some (.exit 2,⟨(Cm i 256).set 31 (.pv (.bool false)),Hj R0 R1 S nl' sets' (Rg rs) rs.length [.box (Ka row)]⟩)):
 Nc (Ea Da 7) [0,3] yb 6 ⟨EA i,Hj R0 R1 S nl sets (Rg rs) rs.length []⟩=
  some (.norm,⟨EA (i+1:Nat),Hj R0 R1 S nl' sets' (Rg (rs++[row])) (rs.length+1) []⟩):=by
 have hlen:(sets.map Zh).length=sets.length:=by simp
 have e1:decide ((i:Int) < (sets.length:Int))=true:=Fa (by omega)
 have t2:=Ua (i:=i) (n:=64) (by omega) (by unfold maxLen;omega)
 have p0:((Ka row).length=256)=True:=by rw[pb,hrow];exact eq_self _
 have p1:(256≤(Ka row).length)=True:=by rw[pb,hrow];exact eq_true (Nat.le_refl _)
 have p2:List.take 256 (Ka row)=Ka row:=List.take_of_length_le (by rw[pb,hrow];exact Nat.le_refl _)
 have p3:=eu row
 have p4:((row.map i64).length=256)=True:=by rw[List.length_map,hrow];exact eq_self _
 have p5:(256≤(Ka (List.replicate 256 0)).length)=True:=by rw[pb,List.length_replicate];exact eq_true (Nat.le_refl _)
 have p6:oa (Ka (List.replicate 256 0)) 0 (Ka row)=Ka row:=by
  have:=yy (Ka row) (Ka (List.replicate 256 0)) [] (by rw[pb,pb,hrow,List.length_replicate])
  rw[List.nil_append,List.nil_append] at this;exact this
 have p7:=wF row
 have p8:List.take 256 (row.map i64)=row.map i64:=List.take_of_length_le (by rw[List.length_map,hrow];exact Nat.le_refl _)
 have p9:(row.map i64).map AV.pv=Ka row:=(ct row).symm
 have q1:(rs.length * 256=(rs.flatMap Ka).length)=True:=by rw[CD hrr];exact eq_self _
 have q2:qb (rs.length+1) 2048:=by unfold qb;omega
 have q3:(rs++[row]).flatMap Ka=rs.flatMap Ka++Ka row:=by rw[List.flatMap_append,List.flatMap_cons,List.flatMap_nil,List.append_nil]
 have q4:(rs++[row]).isEmpty=false:=by cases rs <;> rfl
 have q5:=zw 7 6 rs
 have q6:=zw 6 6 (rs++[row])
 rw[q3] at q6
 simp only[Cm,Hj,Rg,Int.cast_ofNat_Int] at hrowL
 unfold Hj Rg
 rw[q3,q4]
 have hz2:=KY
 generalize hz:List.replicate 256 (0:Int)=zs at *
 simp -implicitDefEqProofs only[SP,SA,SQ,sevalprocAttr,-List.reduceReplicate,Nc,ga,yb,hlen,e1,xb,fa,Aa,Lm,an,qn,Vt,Ma,Oq,AV.cut,Dc,h0,h1,g0,g1,EA,hz2,q5]
 rw[hrowL]
 simp -implicitDefEqProofs only[SP,SA,SQ,sevalprocAttr,-List.reduceReplicate,List.append_nil,hlen,t2,p0,p1,p2,p3,p4,p5,p6,p7,p8,p9,q1,eq_true q2,q5,q6,si,AV.CC,AV.Ip,hz2,Cj,fa,Aa,Lm,an,qn,Vt,Ma,Oq,AV.cut,Dc,h0,h1,g0,g1]
end
end Go.AM.B1
namespace Go.AM.B1
open Go.AM
theorem wrap_u32 {n:Nat} (h:n < 4294967296):IntKind.u32.wrap (n:Int)=(n:Int):=by
 have e:IntKind.u32.wrap (n:Int)=(n:Int) % 4294967296:=by
  simp[IntKind.signed,IntKind.wrap,IntKind.bits]
 rw[e];omega
theorem bU {a b:Nat} (ha:a < 4294967296) (hb:b < 4294967296):(BitVec.ofInt IntKind.u32.bits (a:Int) &&& BitVec.ofInt IntKind.u32.bits (b:Int)).toNat=a &&& b:=by
 show (BitVec.ofInt 32 (a:Int) &&& BitVec.ofInt 32 (b:Int)).toNat=_
 rw[BitVec.toNat_and,BitVec.ofInt_natCast,BitVec.ofInt_natCast,BitVec.toNat_ofNat,BitVec.toNat_ofNat,Nat.mod_eq_of_lt ha,Nat.mod_eq_of_lt hb]
theorem NV {a b:Nat} (ha:a < 4294967296) (hb:b < 4294967296):(BitVec.ofInt IntKind.u32.bits (a:Int) ||| BitVec.ofInt IntKind.u32.bits (b:Int)).toNat=a ||| b:=by
 show (BitVec.ofInt 32 (a:Int) ||| BitVec.ofInt 32 (b:Int)).toNat=_
 rw[BitVec.toNat_or,BitVec.ofInt_natCast,BitVec.ofInt_natCast,BitVec.toNat_ofNat,BitVec.toNat_ofNat,Nat.mod_eq_of_lt ha,Nat.mod_eq_of_lt hb]
theorem MJ {n i:Nat} (hn:n < 4294967296) (hi:i < 32):Py (n:Int) i=n.testBit i:=by
 have hm:min i IntKind.u32.bits=i:=by show min i 32=i;omega
 have hf:(n:Int).fdiv (2 ^ i)=((n / 2 ^ i:Nat):Int):=by
  rw[show ((2:Int) ^ i)=((2 ^ i:Nat):Int) by push_cast;rfl]
  exact (Int.ofNat_fdiv n (2 ^ i)).symm
 have hle:n / 2 ^ i < 4294967296:=Nat.lt_of_le_of_lt (Nat.div_le_self _ _) hn
 have e:(BitVec.ofInt IntKind.u32.bits ((n / 2 ^ i:Nat):Int) &&& BitVec.ofInt IntKind.u32.bits 1).toNat=n / 2 ^ i % 2:=by
  have:=bU hle (show 1 < 4294967296 by decide)
  rw[Nat.and_one_is_mod] at this
  exact this
 unfold Py
 rw[hm,hf,e,wrap_u32 (by omega),Nat.testBit_eq_decide_div_mod_eq]
 rcases Nat.mod_two_eq_zero_or_one (n / 2 ^ i) with h | h <;> rw[h] <;> rfl
theorem zW {n i:Nat} (hn:n < 4294967296) (hi:i < 32):VY (n:Int) i=((n ||| 2 ^ i:Nat):Int):=by
 have hm:min i IntKind.u32.bits=i:=by show min i 32=i;omega
 have hp:2 ^ i < 4294967296:=by
  have:(2:Nat) ^ i < 2 ^ 32:=Nat.pow_lt_pow_right (by decide) hi
  simpa using this
 have h2:IntKind.u32.wrap (1 * 2 ^ i)=((2 ^ i:Nat):Int):=by
  rw[Int.one_mul,show ((2:Int) ^ i)=((2 ^ i:Nat):Int) by push_cast;rfl,wrap_u32 hp]
 unfold VY
 rw[hm,h2,NV hn hp,wrap_u32]
 exact Nat.or_lt_two_pow (n:=32) hn hp
def Yt (x:Int) (bits d:Nat):Nat→List Lb→Nat×Bool→Nat×Bool
 |_,[],acc=>acc
 |i,s::r,acc=>Yt x bits d (i+1) r (if bits.testBit i&&vt s d x then (acc.1 ||| 2 ^ i,acc.2||(s.parts.length==d+1)) else acc)
theorem UI {x:Int} {bits d:Nat}:∀ (ss:List Lb) (i:Nat) (acc:Nat×Bool),i+ss.length≤32→acc.1 < 4294967296→(Yt x bits d i ss acc).1 < 4294967296
 | [],i,acc,_,h=>h
 |s::r,i,acc,hl,h=>by
  rw[Yt]
  refine UI r (i+1) _ (by simp only[List.length_cons] at hl;omega) ?_
  split
  ·refine Nat.or_lt_two_pow (n:=32) h ?_
   exact Nat.pow_lt_pow_right (by decide) (by simp only[List.length_cons] at hl;omega)
  ·exact h
theorem HN {x:Int} {bits d:Nat} (hb:bits < 4294967296):∀ (ss:List Lb) (i:Nat) (acc:Nat×Bool),i+ss.length≤32→acc.1 < 4294967296→
 nh x (bits:Int) d i ss ((acc.1:Int),acc.2)=(((Yt x bits d i ss acc).1:Int),(Yt x bits d i ss acc).2)
 | [],i,acc,_,h=>rfl
 |s::r,i,acc,hl,h=>by
  have hi:i < 32:=by simp only[List.length_cons] at hl;omega
  rw[nh,Yt,MJ hb hi,zW h hi]
  have h2:(acc.1 ||| 2 ^ i) < 4294967296:=Nat.or_lt_two_pow (n:=32) h (Nat.pow_lt_pow_right (by decide) hi)
  have ih:=HN (x:=x) (d:=d) hb r (i+1) (if bits.testBit i&&vt s d x then (acc.1 ||| 2 ^ i,acc.2||(s.parts.length==d+1)) else acc)
   (by simp only[List.length_cons] at hl;omega) (by split;exact h2;exact h)
  rw[← ih]
  cases bits.testBit i&&vt s d x <;> rfl
theorem HA {x:Int} {bits d:Nat}:∀ (ss:List Lb) (i:Nat) (acc:Nat×Bool) (j:Nat),
 (Yt x bits d i ss acc).1.testBit j=(acc.1.testBit j||(decide (i≤j)&&(match ss[j - i]? with | some s=>bits.testBit j&&vt s d x | none=>false)))
 | [],i,acc,j=>by simp[Yt]
 |s::r,i,acc,j=>by
  rw[Yt,HA r (i+1)]
  by_cases hij:i=j
  ·subst hij
   simp only[Nat.sub_self,List.getElem?_cons_zero,Nat.le_refl,decide_true,Bool.true_and]
   have:decide (i+1≤i)=false:=by simp
   rw[this,Bool.false_and,Bool.or_false]
   cases h:(bits.testBit i&&vt s d x) with
   |true=>simp[Nat.testBit_or,Nat.testBit_two_pow_self]
   |false=>simp
  ·have e1:(if (bits.testBit i&&vt s d x)=true then (acc.1 ||| 2 ^ i,acc.2||s.parts.length==d+1) else acc).1.testBit j=acc.1.testBit j:=by
    split
    ·simp only[Nat.testBit_or,Nat.testBit_two_pow_of_ne hij,Bool.or_false]
    ·rfl
   rw[e1]
   by_cases hlt:i+1≤j
   ·have e2:j - i=(j - (i+1))+1:=by omega
    have e3:decide (i≤j)=decide (i+1≤j):=by simp;omega
    rw[e2,e3,List.getElem?_cons_succ]
   ·have e3:decide (i≤j)=false:=by simp;omega
    have e4:decide (i+1≤j)=false:=by simp;omega
    rw[e3,e4];rfl
theorem gB {x:Int} {bits d:Nat}:∀ (ss:List Lb) (i:Nat) (acc:Nat×Bool),
 (Yt x bits d i ss acc).2=(acc.2||(ss.zipIdx i).any fun p=>bits.testBit p.2&&vt p.1 d x&&(p.1.parts.length==d+1))
 | [],i,acc=>by simp[Yt]
 |s::r,i,acc=>by
  rw[Yt,gB r (i+1),List.zipIdx_cons,List.any_cons]
  cases h:(bits.testBit i&&vt s d x) with
  |true=>simp[Bool.or_assoc]
  |false=>simp
end Go.AM.B1
namespace Go.AM.B1
open Go.AM
def cK (ss:List Lb) (k:Nat) (a:Al):Prop:=
 a.1≤k∧∃ b:Nat,a.2=(b:Int)∧b < 4294967296∧∀ i s,ss[i]? =some s→b.testBit i=true→a.1 < s.parts.length
def pn (ss:List Lb) (sets:List Al):Prop:=sets.length≤64∧∀ k a,sets[k]? =some a→cK ss k a
theorem cK.Ba {ss:List Lb} {k:Nat} {a:Al} (h:cK ss k a) (hl:ss.length≤32):∀ i s,ss[i]? =some s→Py a.2 i=true→a.1 < s.parts.length:=by
 obtain⟨_,b,e,hb,h⟩:=h
 intro i s hs ht
 have hi:i < 32:=by have:=(List.getElem?_eq_some_iff.1 hs).1;omega
 rw[e,MJ hb hi] at ht
 exact h i s hs ht
theorem CY {ss:List Lb} {k:Nat} {a:Al} {x:Int} (h:cK ss k a) (hl:ss.length≤32) (hf:(nh x a.2 a.1 0 ss (0,false)).2=false):
 cK ss (k+1) (a.1+1,(nh x a.2 a.1 0 ss (0,false)).1):=by
 obtain⟨hk,b,e,hb,h⟩:=h
 have hN:nh x (b:Int) a.1 0 ss (0,false)=(((Yt x b a.1 0 ss (0,false)).1:Int),(Yt x b a.1 0 ss (0,false)).2):=HN (x:=x) (d:=a.1) hb ss 0 (0,false) (by omega) (by decide)
 rw[e,hN] at hf
 rw[e,hN]
 have hlt:=UI (x:=x) (bits:=b) (d:=a.1) ss 0 (0,false) (by omega) (by decide)
 refine⟨Nat.succ_le_succ hk,_,rfl,hlt,?_⟩
 intro i s hs ht
 rw[HA] at ht
 simp only[Nat.zero_testBit,Nat.zero_le,decide_true,Bool.true_and,Bool.false_or,Nat.sub_zero,hs] at ht
 have hd:=h i s hs (by revert ht;cases b.testBit i <;> simp)
 have hf':(Yt x b a.1 0 ss (0,false)).2=false:=hf
 rw[gB,Bool.false_or,List.any_eq_false] at hf'
 have:=hf' (s,i) (by rw[List.mk_mem_zipIdx_iff_getElem?];exact hs)
 show a.1+1 < s.parts.length
 simp only[ht,Bool.true_and] at this
 have h2:¬s.parts.length=a.1+1:=by simpa using this
 omega
theorem gE {ss:List Lb} {a:Al} {x:Int} {sets:List Al} {r:List Al×Int} {k:Nat} (hs:pn ss sets) (ha:sets[k]? =some a) (hl:ss.length≤32) (h:Hg ss a x sets=some r):
 pn ss r.1∧∃ t,r.1=sets++t:=by
 have hk:=hs.2 k a ha
 unfold Hg at h
 split at h
 ·injection h with h;subst h;exact⟨hs,[],by simp⟩
 ·split at h
  ·injection h with h;subst h;exact⟨hs,[],by simp⟩
  ·next hf=>
   split at h
   ·injection h with h;subst h;exact⟨hs,[],by simp⟩
   ·split at h
    ·next hlt=>
     injection h with h;subst h
     refine⟨⟨by simp;omega,?_⟩,_,rfl⟩
     intro j b hb
     rcases Nat.lt_or_ge j sets.length with h1 | h1
     ·rw[List.getElem?_append_left h1] at hb;exact hs.2 j b hb
     ·rw[List.getElem?_append_right h1] at hb
      cases hj:j - sets.length with
      |succ n=>rw[hj] at hb;simp at hb
      |zero=>
       rw[hj] at hb
       simp only[List.getElem?_cons_zero,Option.some.injEq] at hb
       subst hb
       have hkl:=(List.getElem?_eq_some_iff.1 ha).1
       obtain⟨g1,g2⟩:=CY hk hl (by simpa using hf)
       exact⟨Nat.le_trans g1 (by omega),g2⟩
    ·cases h
theorem Cu {ss:List Lb} {a:Al} {k:Nat} (hl:ss.length≤32):∀ (xs:List Nat) (r r':List Al×List Int),pn ss r.1→r.1[k]? =some a→Pk ss a xs r=some r'→
 pn ss r'.1∧(∃ t,r'.1=r.1++t)∧r'.2.length=r.2.length
 | [],r,r',h,_,e=>by injection e with e;subst e;exact⟨h,⟨[],by simp⟩,rfl⟩
 |x::xs,r,r',h,ha,e=>by
  cases hst:Hg ss a x r.1 with
  |none=>rw[Tt hst] at e;cases e
  |some p=>
   rw[ft hst] at e
   obtain⟨g1,t,g2⟩:=gE h ha hl hst
   obtain⟨k1,⟨t',k2⟩,k3⟩:=Cu hl xs (p.1,r.2.set x p.2) r' g1 (by rw[g2,List.getElem?_append_left (List.getElem?_eq_some_iff.1 ha).1];exact ha) e
   exact⟨k1,⟨t++t',by rw[k2,g2,List.append_assoc]⟩,by rw[k3];simp⟩
def ib:List Int:=List.replicate 256 0
theorem Qt:ib.length=256:=List.length_replicate
def Ig (ss:List Lb):Nat→List Al×List (List Int)→Option (List Al×List (List Int))
 |0,r=>some r
 |k+1,r=>match r.1[r.2.length]? with
  |none=>some r
  |some a=>match Pk ss a (List.range 256) (r.1,ib) with
   |none=>none
   |some p=>Ig ss k (p.1,r.2++[p.2])
theorem fu {ss:List Lb} {k:Nat} {r:List Al×List (List Int)} (h:r.1[r.2.length]? =none):Ig ss k r=some r:=by
 cases k with
 |zero=>rfl
 |succ k=>rw[Ig,h]
theorem Hu {ss:List Lb} {k:Nat} {r:List Al×List (List Int)} {a:Al} (h:r.1[r.2.length]? =some a) (h2:Pk ss a (List.range 256) (r.1,ib)=none):Ig ss (k+1) r=none:=by
 rw[Ig,h];simp only[h2]
theorem lu {ss:List Lb} {k:Nat} {r:List Al×List (List Int)} {a:Al} {p:List Al×List Int} (h:r.1[r.2.length]? =some a) (h2:Pk ss a (List.range 256) (r.1,ib)=some p):Ig ss (k+1) r=Ig ss k (p.1,r.2++[p.2]):=by
 rw[Ig,h];simp only[h2]
section
variable (R0 R1:ba) (S:PV) (nl:Bool) (sets:List Al) (rs:List (List Int)) (ss:List Lb) (i:Nat)
theorem VT (h0:na 7 R0=some R0) (h1:na 7 R1=some R1) (hi:i < sets.length) (hl:sets.length≤64)
 (hrowL:xu 2 (.pv (.bool false)) R0 (ab (ga (ua (Ea Da 7) La) (fa 7 [0,3,4,30])) qa ⟨Cm i 0,Hj R0 R1 S nl sets (Rg rs) rs.length [.box (Ka (List.replicate 256 0))]⟩)):
 xu 2 (.pv (.bool false)) R0 (Nc (Ea Da 7) [0,3] yb 6 ⟨EA i,Hj R0 R1 S nl sets (Rg rs) rs.length []⟩):=by
 have hlen:(sets.map Zh).length=sets.length:=by simp
 have e1:decide ((i:Int) < (sets.length:Int))=true:=Fa (by omega)
 have q5:=zw 7 6 rs
 obtain⟨t,g1,g2,g3⟩:=mr hrowL
 simp only[Cm,Hj,Rg,Int.cast_ofNat_Int] at g1
 unfold Hj Rg
 have hz2:=KY
 generalize hz:List.replicate 256 (0:Int)=zs at *
 simp -implicitDefEqProofs only[SP,SA,SQ,sevalprocAttr,-List.reduceReplicate,Nc,ga,yb,hlen,e1,xb,fa,Aa,Lm,an,qn,Vt,Ma,Oq,AV.cut,Dc,h0,h1,EA,hz2,q5]
 rw[g1]
 simp -implicitDefEqProofs only[SP,SA,SQ,sevalprocAttr,-List.reduceReplicate,pF,g2,g3]
theorem xL (hi:i=sets.length):
 Nc (Ea Da 7) [0,3] yb 6 ⟨EA i,Hj R0 R1 S nl sets (Rg rs) rs.length []⟩=
  some (.exit 0,⟨(((((((EA i).set 21 (.pv (i64 i))).set 22 (.ptr 3 0)).set 23 (.ptr 3 0)).set 24 (.ptr 3 2)).set 25 (.uq 4 nl 2 (sets.map Zh))).set 26 (.pv (i64 sets.length))).set 27 (.pv (.bool false)),Hj R0 R1 S nl sets (Rg rs) rs.length []⟩):=by
 have hlen:(sets.map Zh).length=sets.length:=by simp
 have e1:decide ((i:Int) < (sets.length:Int))=false:=Ga (by omega)
 simp -implicitDefEqProofs only[SP,SA,SQ,sevalprocAttr,-List.reduceReplicate,Nc,ga,yb,hlen,e1,EA,Hj]
theorem AP (n:Nat):na n (Rg rs)=some (Rg rs):=by
 have:(rs.flatMap Ka).all (AV.Je n deep)=true:=zw n deep rs
 unfold Rg
 rw[Vt,if_pos this]
theorem NQ (h0:na 7 R0=some R0) (h1:na 7 R1=some R1) (g0:na 6 R0=some R0) (g1:na 6 R1=some R1)
 (hS:Vi 2 S (ss.map Oe)) (hw:ss.length≤32) (hsz:∀ s∈ss,∀ l∈s.parts,l.length * 16≤140737488355328) (Ba:pn ss sets) (h1s:sets.length≤1):
 (∀ r,Ig ss 64 (sets,[])=some r→∃ E nl',ab (ga (ua (Ea Da 7) yb) (fa 6 [0,3])) qa ⟨EA 0,Hj R0 R1 S nl sets (Rg []) 0 []⟩=
  some (.exit 0,⟨E,Hj R0 R1 S nl' r.1 (Rg r.2) r.2.length []⟩)∧pn ss r.1∧r.2.length=r.1.length∧∀ r'∈r.2,r'.length=256)∧
 (Ig ss 64 (sets,[])=none→xu 2 (.pv (.bool false)) R0 (ab (ga (ua (Ea Da 7) yb) (fa 6 [0,3])) qa ⟨EA 0,Hj R0 R1 S nl sets (Rg []) 0 []⟩)):=by
 have key:=al (g:=Nc (Ea Da 7) [0,3] yb 6)
  (fun i t=>∃ nl' sets' rs',t=⟨EA i,Hj R0 R1 S nl' sets' (Rg rs') rs'.length []⟩∧Ig ss 64 (sets,[])=Ig ss (64 - i) (sets',rs')∧pn ss sets'∧rs'.length=i∧i≤sets'.length∧∀ r∈rs',r.length=256)
  (fun ex t=>(∃ r,ex= .exit 0∧Ig ss 64 (sets,[])=some r∧∃ E nl',t=⟨E,Hj R0 R1 S nl' r.1 (Rg r.2) r.2.length []⟩∧pn ss r.1∧r.2.length=r.1.length∧∀ r'∈r.2,r'.length=256)∨
   (ex= .ret∧Ig ss 64 (sets,[])=none∧t.env.get 2= .pv (.bool false)∧t.H[0]? =some R0))
  qa 64 0 ⟨EA (0:Nat),Hj R0 R1 S nl sets (Rg []) 0 []⟩ (by unfold qa;omega) (by omega) ⟨nl,sets,[],rfl,rfl,Ba,rfl,by omega,by simp⟩ ?_ ?_
 ·obtain⟨ex,t,h,_,hq⟩:=key
  have h':ab (ga (ua (Ea Da 7) yb) (fa 6 [0,3])) qa ⟨EA 0,Hj R0 R1 S nl sets (Rg []) 0 []⟩=some (ex,t):=h
  rw[h']
  rcases hq with⟨r,rfl,hr',E,nl',rfl,q1,q2,q3⟩ | ⟨rfl,hr',hg,hg2⟩
  ·refine⟨fun r2 e=> ?_,fun e=> ?_⟩
   ·rw[hr'] at e;injection e with e;subst e;exact⟨E,nl',rfl,q1,q2,q3⟩
   ·rw[hr'] at e;cases e
  ·refine⟨fun r2 e=> ?_,fun _=> .mk _ hg hg2⟩
   rw[hr'] at e;cases e
 ·rintro i hi t ⟨nl',sets',rs',rfl,hws,hok',hrl,hil,hrr⟩
  by_cases hlt:i < sets'.length
  ·obtain⟨a,ha⟩:∃ a,sets'[i]? =some a:=⟨sets'[i],by simp[hlt]⟩
   have hsa:=hok'.2 i a ha
   have hget:sets'[rs'.length]? =some a:=by rw[hrl];exact ha
   have hrow:=ZU R0 R1 S (Rg rs') rs'.length ss h0 h1 (AP rs' 7) hS (by unfold maxLen;omega) hsz (nl:=nl') Qt ha (by have:=hsa.1;omega) hok'.1 (hsa.Ba hw)
   have e64:64 - i=(64 - (i+1))+1:=by omega
   cases hr:Pk ss a (List.range 256) (sets',ib) with
   |none=>
    have hst:=VT R0 R1 S nl' sets' rs' i h0 h1 hlt hok'.1 (hrow.2 hr)
    obtain⟨t,k1,k2,k3⟩:=mr hst
    rw[e64,Hu (r:=(sets',rs')) hget hr] at hws
    exact .inr ⟨.ret,t,k1,rfl,.inr ⟨rfl,hws,k2,k3⟩⟩
   |some p=>
    obtain⟨nl2,k1,k2,k3,k4⟩:=hrow.1 p hr
    have hro:=Cu hw _ _ _ hok' ha hr
    rw[e64,lu (r:=(sets',rs')) hget hr] at hws
    have hsr:=FP R0 R1 S nl' sets' rs' i h0 h1 g0 g1 hlt hok'.1 (by have:=hok'.1;omega) hrr nl2 p.1 p.2 k3 k1
    refine .inl ⟨_,hsr,nl2,p.1,rs'++[p.2],by simp,hws,hro.1,by simp[hrl],?_,?_⟩
    ·obtain⟨t,ht⟩:=k4
     rw[ht];simp;omega
    ·intro r hr
     rcases List.mem_append.1 hr with h | h
     ·exact hrr r h
     ·simp at h;subst h;exact k3
  ·have hie:i=sets'.length:=by omega
   rw[fu (r:=(sets',rs')) (by show sets'[rs'.length]? =none;rw[hrl,hie];simp)] at hws
   exact .inr ⟨.exit 0,_,xL R0 R1 S nl' sets' rs' i hie,rfl,.inl ⟨(sets',rs'),rfl,hws,_,nl',rfl,hok',by show rs'.length=sets'.length;omega,hrr⟩⟩
 ·rintro t ⟨nl',sets',rs',rfl,hws,hok',hrl,hil,hrr⟩
  have hie:64=sets'.length:=by have:=hok'.1;omega
  rw[fu (r:=(sets',rs')) (by show sets'[rs'.length]? =none;rw[hrl,hie];simp)] at hws
  exact⟨.exit 0,_,xL R0 R1 S nl' sets' rs' 64 hie,rfl,.inl ⟨(sets',rs'),rfl,hws,_,nl',rfl,hok',by show rs'.length=sets'.length;omega,hrr⟩⟩
end
end Go.AM.B1
namespace Go.AM.B1
open Go.AM
abbrev Th (R0 R1:ba) (S:PV) (nl nr:Bool) (fr:Nat) (sets:List Al) (C:List Int) (n:Nat) (T:List ba):List ba:=
 R0::R1:: .map (mC sets 0):: .box [.pv S,.mp 2,.uq 4 nl 2 (sets.map Zh),.own 5 n]:: .tok 2 sets.length nl:: .seq 256 true (Ka C) fr nr::T
abbrev ei (row:List Int):PV:= .agg (row.map i64)
abbrev Tz (n:Nat) (row:List Int) (i x:Int):Tr:=
 (((((Tr.lf.set 34 (.pv (i64 x))).set 33 (.pv (ei row))).set 5 (.pv (i64 i))).set 4 (.mp 7)).set 3 (.own 6 n)).set 0 (.ptr 3 0)
section
variable (call:Wa) (R0 R1:ba) (S:PV) (nl nr nk:Bool) (fr fk:Nat) (sets:List Al) (C:List Int) (n:Nat) (uc:List Int) (M:ba) (row:List Int) (i x:Nat) (to:Int)
theorem rM (hx:x < 256) (hto:row[x]? =some to) (h:to < 0):ga (ua call qc) (fun s=>some (tidy [0,3,4,5,33,34] s)) ⟨Tz n row i x,Th R0 R1 S nl nr fr sets C n [.seq 1 false (Ka uc) fk nk,M]⟩=
 some (.norm,⟨Tz n row i (x+1:Nat),Th R0 R1 S nl nr fr sets C n [.seq 1 false (Ka uc) fk nk,M]⟩):=by
 have e1:decide ((x:Int) < 256)=true:=Fa (by omega)
 have e2:decide (to≥0)=false:=Ga (by omega)
 have hq:Ia (x:Int) 256:=by unfold Ia;omega
 have t1:((x:Int)).toNat=x:=by simp
 have t2:=Ua (i:=x) (n:=256) hx (by unfold maxLen;omega)
 have ht:(row.map i64)[x]? =some (i64 to):=by rw[List.getElem?_map,hto];rfl
 simp -implicitDefEqProofs only[SP,SA,SQ,sevalprocAttr,-List.reduceReplicate,ga,qc,e1,e2,eq_true hq,t1,t2,ht,Hl,wa,tidy,Bc,Tz,Th]
theorem yQ (hC:C.length=n * 256) (hk:uc.length=n) (hfr:fr≤n * 256) (hfk:fk≤n) (hi:i < n) (hx:x < 256) (hto:row[x]? =some to) (h:0≤to) {v:Int} (hv:uc[to.toNat]? =some v):ga (ua call qc) (fun s=>some (tidy [0,3,4,5,33,34] s)) ⟨Tz n row i x,Th R0 R1 S nl nr fr sets C n [.seq 1 false (Ka uc) fk nk,M]⟩=
 some (.norm,⟨Tz n row i (x+1:Nat),Th R0 R1 S nl nr (n * 256) sets (C.set (i * 256+x) v) n [.seq 1 false (Ka uc) fk nk,M]⟩):=by
 have e1:decide ((x:Int) < 256)=true:=Fa (by omega)
 have e2:decide (to≥0)=true:=Fa (by omega)
 have hq:Ia (x:Int) 256:=by unfold Ia;omega
 have t1:((x:Int)).toNat=x:=by simp
 have t3:((i:Int)).toNat=i:=by simp
 have t2:=Ua (i:=x) (n:=256) hx (by unfold maxLen;omega)
 have ht:(row.map i64)[x]? =some (i64 to):=by rw[List.getElem?_map,hto];rfl
 have hv':(Ka uc)[to.toNat]? =some (.pv (i64 v)):=by rw[Ka,List.getElem?_map,hv];rfl
 have hvl:=(List.getElem?_eq_some_iff.1 hv).1
 have hq2:Ia to n:=by unfold Ia;omega
 have hq3:Ia (i:Int) n:=by unfold Ia;omega
 have w1:Qh 1 n fk (Ka uc).length:=by rw[pb];unfold Qh;omega
 have w2:Qh 256 n fr (Ka C).length:=by rw[pb];unfold Qh;omega
 have w3:((Ka uc).length=n)=True:=by rw[pb];exact eq_true hk
 have w5:(i * 256+x+1≤n * 256)=True:=eq_true (by omega)
 have w4:((Ka C).length=n * 256)=True:=by rw[pb];exact eq_true hC
 simp -implicitDefEqProofs only[SP,SA,SQ,sevalprocAttr,-List.reduceReplicate,ga,qc,e1,e2,eq_true hq,eq_true hq2,eq_true hq3,eq_true w1,eq_true w2,w3,w4,w5,t1,t2,t3,ht,hv',Hl,wa,aj,tidy,Bc,Tz,Th]
def Ed (uc row:List Int) (i:Nat):List Nat→List Int→List Int
 | [],C=>C
 |x::xs,C=>Ed uc row i xs (match row[x]? with
  |some to=>if 0≤to then C.set (i * 256+x) (uc.getD to.toNat 0) else C
  |none=>C)
theorem sm (uc row:List Int) (i:Nat):∀ (xs:List Nat) (C:List Int),(Ed uc row i xs C).length=C.length
 | [],C=>rfl
 |x::xs,C=>by
  rw[Ed,sm uc row i xs]
  split
  ·split <;> simp
  ·rfl
theorem sL (hC:C.length=n * 256) (hk:uc.length=n) (hfr:fr=0∨fr=n * 256) (hfk:fk≤n) (hi:i < n) (hrow:row.length=256) (hto:∀ to∈row,to < n):
 ∃ fr',(fr'=0∨fr'=n * 256)∧ab (ga (ua call qc) (fun s=>some (tidy [0,3,4,5,33,34] s))) qa ⟨Tz n row i 0,Th R0 R1 S nl nr fr sets C n [.seq 1 false (Ka uc) fk nk,M]⟩=
  some (.exit 2,⟨(Tz n row i 256).set 35 (.pv (.bool false)),Th R0 R1 S nl nr fr' sets (Ed uc row i (List.range 256) C) n [.seq 1 false (Ka uc) fk nk,M]⟩):=by
 generalize hxs:List.range 256=xs
 have key:=al (g:=ga (ua call qc) (fun s=>some (tidy [0,3,4,5,33,34] s)))
  (fun x t=>∃ fr' C',(fr'=0∨fr'=n * 256)∧C'.length=n * 256∧t=⟨Tz n row i x,Th R0 R1 S nl nr fr' sets C' n [.seq 1 false (Ka uc) fk nk,M]⟩∧Ed uc row i xs C=Ed uc row i (xs.drop x) C')
  (fun ex t=>∃ fr',(fr'=0∨fr'=n * 256)∧ex= .exit 2∧t=⟨(Tz n row i 256).set 35 (.pv (.bool false)),Th R0 R1 S nl nr fr' sets (Ed uc row i xs C) n [.seq 1 false (Ka uc) fk nk,M]⟩)
  qa 256 0 ⟨Tz n row i (0:Nat),Th R0 R1 S nl nr fr sets C n [.seq 1 false (Ka uc) fk nk,M]⟩ (by unfold qa;omega) (by omega) ⟨fr,C,hfr,hC,rfl,rfl⟩ ?_ ?_
 ·obtain⟨ex,t,h,_,fr',q1,rfl,rfl⟩:=key
  exact⟨fr',q1,h⟩
 ·rintro x hx t ⟨fr',C',hf',hC',rfl,hl⟩
  have hd:=Jq hx
  rw[hxs] at hd
  rw[hd] at hl
  obtain⟨to,ht⟩:∃ to,row[x]? =some to:=⟨row[x],by simp[hrow,hx]⟩
  have hlt:=hto to (List.mem_of_getElem? ht)
  by_cases h0:0≤to
  ·obtain⟨v,hv⟩:∃ v,uc[to.toNat]? =some v:=⟨uc[to.toNat]'(by omega),by rw[List.getElem?_eq_getElem]⟩
   refine .inl ⟨_,yQ call R0 R1 S nl nr nk fr' fk sets C' n uc M row i x to hC' hk (by omega) hfk hi hx ht h0 hv,n * 256,_,.inr rfl,by simpa using hC',rfl,?_⟩
   rw[hl,Ed,ht]
   have:uc.getD to.toNat 0=v:=by simp[hv]
   simp only[if_pos h0,this]
  ·refine .inl ⟨_,rM call R0 R1 S nl nr nk fr' fk sets C' n uc M row i x to hx ht (by omega),fr',C',hf',hC',rfl,?_⟩
   rw[hl,Ed,ht]
   simp only[if_neg h0]
 ·rintro t ⟨fr',C',hf',hC',rfl,hl⟩
  rw[List.drop_eq_nil_of_le (by rw[← hxs,List.length_range];exact Nat.le_refl _)] at hl
  refine⟨.exit 2,_,?_,rfl,fr',hf',rfl,rfl⟩
  rw[hl]
  have e1:decide (((256:Nat):Int) < 256)=false:=by decide
  simp -implicitDefEqProofs only[SP,SA,SQ,sevalprocAttr,-List.reduceReplicate,ga,qc,e1,Tz,Th,Ed]
end
theorem tA:∀ (a b:List Int),a.length=b.length→Xi (List.replicate a.length 1) (a.map i64) (b.map i64)=some (decide (a=b))
 | [],[],_=>rfl
 |x::a,y::b,h=>by
  have ih:=tA a b (by simpa using h)
  simp only[List.length_cons,List.replicate_succ,List.map_cons,Xi,js,if_true,Option.bind_some,ih,Option.map_some,List.cons.injEq,Bool.decide_and]
  congr 2
 | [],_::_,h=>by cases h
 |_::_,[],h=>by cases h
def Et (M:List (List Int×Int)):List (PV×PV):=M.map fun p=>(ei p.1,i64 p.2)
theorem MP (M:List (List Int×Int)) (p:List Int×Int):Et (M++[p])=Et M++[(ei p.1,i64 p.2)]:=by simp[Et]
def uk (a:List Int):List (List Int×Int)→Option Int
 | []=>none
 |p::r=>if a=p.1 then some p.2 else uk a r
theorem lK {a:List Int} (ha:a.length=256):∀ (M:List (List Int×Int)) (j:Nat),(∀ p∈M,p.1.length=256)→
 (∀ v,uk a M=some v→∃ k,zm (.row (List.replicate 256 1)) (ei a) (Et M) j=some (some (k,i64 v)))∧(uk a M=none→zm (.row (List.replicate 256 1)) (ei a) (Et M) j=some none)
 | [],j,_=>⟨fun v h=>(by cases h),fun _=>rfl⟩
 |p::r,j,hp=>by
  have he:=tA a p.1 (by rw[ha,hp p (by simp)])
  rw[ha] at he
  have ih:=lK ha r (j+1) (fun q hq=>hp q (by simp[hq]))
  have hk:Zk (.row (List.replicate 256 1)) (ei a) (ei p.1)=some (decide (a=p.1)):=he
  rw[show Et (p::r)=(ei p.1,i64 p.2)::Et r from rfl,zm,hk,Option.bind_some,uk]
  by_cases h:a=p.1
  ·rw[if_pos h,decide_eq_true h]
   exact⟨fun v e=>(by injection e with e;subst e;exact⟨j,rfl⟩),fun e=>(by cases e)⟩
  ·rw[if_neg h,decide_eq_false h]
   exact ih
theorem EM {a:List Int} (ha:a.length=256):(Zk (.row (List.replicate 256 1)) (ei a) (ei a)).isSome=true:=by
 have he:=tA a a rfl
 rw[ha] at he
 show (Xi _ _ _).isSome=true
 rw[he];rfl
def Xa (C:List Int) (i:Nat):List Int:=(C.drop (i * 256)).take 256
theorem Ih {C:List Int} {n i:Nat} (hC:C.length=n * 256) (hi:i < n):(Xa C i).length=256:=by
 unfold Xa;rw[List.length_take,List.length_drop,hC];omega
theorem JD (C:List Int) (i:Nat):ve (List.take 256 (List.drop (i * 256) (Ka C)))=some ((Xa C i).map i64):=by
 have:List.take 256 (List.drop (i * 256) (Ka C))=Ka (Xa C i):=by unfold Xa Ka;rw[List.map_take,List.map_drop]
 rw[this,eu]
structure DJ where
 C:List Int
 uc:List Int
 M:List (List Int×Int)
def Xk (i:Nat) (s:DJ):DJ:=
 let C:=Ed s.uc (Xa s.C i) i (List.range 256) s.C
 match uk (Xa C i) s.M with
 |some v=>⟨C,s.uc.set i v,s.M⟩
 |none=>⟨C,s.uc.set i i,s.M++[(Xa C i,(i:Int))]⟩
def wj:Nat→DJ→DJ
 |0,s=>s
 |i+1,s=>wj i (Xk i s)
theorem Xr {i:Nat} {s:DJ} {v:Int} (h:uk (Xa (Ed s.uc (Xa s.C i) i (List.range 256) s.C) i) s.M=some v):Xk i s=⟨Ed s.uc (Xa s.C i) i (List.range 256) s.C,s.uc.set i v,s.M⟩:=by
 simp only[Xk,h]
theorem Pr {i:Nat} {s:DJ} (h:uk (Xa (Ed s.uc (Xa s.C i) i (List.range 256) s.C) i) s.M=none):
 Xk i s=⟨Ed s.uc (Xa s.C i) i (List.range 256) s.C,s.uc.set i i,s.M++[(Xa (Ed s.uc (Xa s.C i) i (List.range 256) s.C) i,(i:Int))]⟩:=by
 simp only[Xk,h]
abbrev BA (n:Nat) (i:Int):Tr:=(((Tr.lf.set 5 (.pv (i64 i))).set 4 (.mp 7)).set 3 (.own 6 n)).set 0 (.ptr 3 0)
section
variable (call:Wa) (R0 R1:ba) (S:PV) (nl nr nk:Bool) (fr fk:Nat) (sets:List Al) (n:Nat) (s:DJ) (i:Nat)
theorem nL (hC:s.C.length=n * 256) (hk:s.uc.length=n) (hfr:fr=0∨fr=n * 256) (hfk:fk≤n) (hi:i < n) (hn:n≤64) (hto:∀ to∈Xa s.C i,to < n) (hM:∀ p∈s.M,p.1.length=256):
 ∃ fr',(fr'=0∨fr'=n * 256)∧ga (ua call yd) (fun s=>some (tidy [0,3,4,5] s)) ⟨BA n i,Th R0 R1 S nl nr fr sets s.C n [.seq 1 false (Ka s.uc) fk nk,.map (Et s.M)]⟩=
  some (.norm,⟨BA n ((i:Int) - 1),Th R0 R1 S nl nr fr' sets (Xk i s).C n [.seq 1 false (Ka (Xk i s).uc) n nk,.map (Et (Xk i s).M)]⟩):=by
 obtain⟨fr',hf',hin⟩:=sL call R0 R1 S nl nr nk fr fk sets s.C n s.uc (.map (Et s.M)) (Xa s.C i) i hC hk hfr hfk hi (Ih hC hi) hto
 refine⟨fr',hf',?_⟩
 have hC2:(Ed s.uc (Xa s.C i) i (List.range 256) s.C).length=n * 256:=by rw[sm,hC]
 have hrl:=Ih hC2 hi
 have hfd:=lK hrl s.M 0 hM
 have his:=EM hrl
 have p1:=JD s.C i
 have p2:=JD (Ed s.uc (Xa s.C i) i (List.range 256) s.C) i
 have e1:decide ((i:Int)≥0)=true:=Fa (by omega)
 have hq3:Ia (i:Int) n:=by unfold Ia;omega
 have t3:((i:Int)).toNat=i:=by simp
 have t2:IntKind.i64.wrap ((i:Int) - 1)=(i:Int) - 1:=Ca (by omega)
 have w2:Qh 256 n fr (Ka s.C).length:=by rw[pb];unfold Qh;omega
 have w4:((Ka s.C).length=n * 256)=True:=by rw[pb];exact eq_true hC
 have w6:(i * 256+256≤(Ka s.C).length)=True:=by rw[pb];exact eq_true (by omega)
 have hl1:=@Xr i s
 have hl2:=@Pr i s
 generalize Ed s.uc (Xa s.C i) i (List.range 256) s.C=C2 at *
 have w12:Qh 256 n fr' (Ka C2).length:=by rw[pb];unfold Qh;omega
 have w14:((Ka C2).length=n * 256)=True:=by rw[pb];exact eq_true hC2
 have w16:(i * 256+256≤(Ka C2).length)=True:=by rw[pb];exact eq_true (by omega)
 have w1:Qh 1 n fk (Ka s.uc).length:=by rw[pb];unfold Qh;omega
 have w3:((Ka s.uc).length=n)=True:=by rw[pb];exact eq_true hk
 have w5:(i+1≤n)=True:=eq_true (by omega)
 generalize hz:List.replicate 256 1=ks at *
 have hin':ab (ga (ua call qc) (fun s=>some (tidy [0,3,4,5,33,34] s))) qa ⟨Tz n (Xa s.C i) i 0,Th R0 R1 S nl nr fr sets s.C n [.seq 1 false (Ka s.uc) fk nk,.map (Et s.M)]⟩=_:=hin
 simp only[Tz,Th,tidy,Bc] at hin'
 cases hlk:uk (Xa C2 i) s.M with
 |some v=>
  obtain⟨k,hk2⟩:=hfd.1 v hlk
  rw[hl1 hlk]
  simp -implicitDefEqProofs only[SP,SA,SQ,sevalprocAttr,-List.reduceReplicate,ga,yd,e1,eq_true hq3,t2,t3,eq_true w2,w4,w6,p1,wa,Tp,tidy,Bc,BA,Th,hz]
  rw[hin']
  simp -implicitDefEqProofs only[SP,SA,SQ,sevalprocAttr,-List.reduceReplicate,eq_true hq3,t2,t3,eq_true w12,w14,w16,eq_true w1,w3,w5,p2,wa,eq_true his,hk2,aj,tidy,Bc,BA,Th]
 |none=>
  have hk2:=hfd.2 hlk
  rw[hl2 hlk]
  simp -implicitDefEqProofs only[SP,SA,SQ,sevalprocAttr,-List.reduceReplicate,ga,yd,e1,eq_true hq3,t2,t3,eq_true w2,w4,w6,p1,wa,Tp,tidy,Bc,BA,Th,hz]
  rw[hin']
  simp -implicitDefEqProofs only[SP,SA,SQ,sevalprocAttr,-List.reduceReplicate,eq_true hq3,t2,t3,eq_true w12,w14,w16,eq_true w1,w3,w5,p2,wa,eq_true his,hk2,aj,tidy,Bc,BA,Th,MP]
end
end Go.AM.B1
namespace Go.AM.B1
open Go.AM
structure WX (n:Nat) (s:DJ):Prop where
 hC:s.C.length=n * 256
 hk:s.uc.length=n
 cC:∀ c∈s.C,c < n
 ck:∀ c∈s.uc,c < n
 cM:∀ p∈s.M,p.1.length=256∧p.2 < n
theorem eF {uc row:List Int} {i:Nat} {n:Int} (hn:0 < n) (hk:∀ c∈uc,c < n):∀ (xs:List Nat) (C:List Int),(∀ c∈C,c < n)→∀ c∈Ed uc row i xs C,c < n
 | [],C,h=>h
 |x::xs,C,h=>by
  rw[Ed]
  refine eF hn hk xs _ ?_
  split
  ·split
   ·intro c hc
    rcases List.mem_or_eq_of_mem_set hc with h1 | h1
    ·exact h c h1
    ·subst h1
     next to _ _=>
     rcases Nat.lt_or_ge to.toNat uc.length with h2 | h2
     ·rw[List.getD_eq_getElem?_getD,List.getElem?_eq_getElem h2];exact hk _ (List.getElem_mem h2)
     ·rw[List.getD_eq_getElem?_getD,List.getElem?_eq_none h2];exact hn
   ·exact h
  ·exact h
theorem Gt {a:List Int}:∀ {M:List (List Int×Int)} {v:Int},uk a M=some v→∃ p∈M,p.1=a∧p.2=v
 |p::r,v,h=>by
  rw[uk] at h
  split at h
  ·next h1=>injection h with h;exact⟨p,by simp,h1.symm,h⟩
  ·obtain⟨q,hq,e⟩:=Gt h
   exact⟨q,by simp[hq],e⟩
theorem LB {n i:Nat} {s:DJ} (hi:i < n) (h:WX n s):WX n (Xk i s):=by
 have hC2:(Ed s.uc (Xa s.C i) i (List.range 256) s.C).length=n * 256:=by rw[sm,h.hC]
 have hlt:=eF (i:=i) (row:=Xa s.C i) (n:=(n:Int)) (by omega) h.ck (List.range 256) s.C h.cC
 have hl1:=@Xr i s
 have hl2:=@Pr i s
 generalize Ed s.uc (Xa s.C i) i (List.range 256) s.C=C2 at *
 cases hl:uk (Xa C2 i) s.M with
 |some v=>
  obtain⟨p,hp,_,hv⟩:=Gt hl
  have:=(h.cM p hp).2
  rw[hl1 hl]
  refine⟨hC2,by simp[h.hk],hlt,?_,h.cM⟩
  intro c hc
  rcases List.mem_or_eq_of_mem_set hc with h1 | h1
  ·exact h.ck c h1
  ·omega
 |none=>
  rw[hl2 hl]
  refine⟨hC2,by simp[h.hk],hlt,?_,?_⟩
  ·intro c hc
   rcases List.mem_or_eq_of_mem_set hc with h1 | h1
   ·exact h.ck c h1
   ·omega
  ·intro p hp
   rcases List.mem_append.1 hp with h1 | h1
   ·exact h.cM p h1
   ·simp at h1;subst h1;exact⟨Ih hC2 hi,by simp;omega⟩
theorem tD {n:Nat}:∀ (k:Nat) (s:DJ),k≤n→WX n s→WX n (wj k s)
 |0,s,_,h=>h
 |k+1,s,hk,h=>tD k _ (by omega) (LB (by omega) h)
def Re (n:Nat) (C:List Int):DJ:=wj n ⟨C,List.replicate n 0,[]⟩
section
variable (call:Wa) (R0 R1:ba) (S:PV) (nl nr nk:Bool) (sets:List Al) (C:List Int) (n:Nat)
theorem XL (s0:DJ) (hn:n≤64) (h0:0 < n) (Ba:WX n s0):
 ∃ fr fk,(fr=0∨fr=n * 256)∧ab (ga (ua call yd) (fun s=>some (tidy [0,3,4,5] s))) qa ⟨BA n ((n:Int) - 1),Th R0 R1 S nl nr 0 sets s0.C n [.seq 1 false (Ka s0.uc) 0 nk,.map (Et s0.M)]⟩=
  some (.exit 0,⟨((BA n (-1)).set 23 (.pv (i64 (-1)))).set 24 (.pv (.bool false)),Th R0 R1 S nl nr fr sets (wj n s0).C n [.seq 1 false (Ka (wj n s0).uc) fk nk,.map (Et (wj n s0).M)]⟩)∧fk≤n:=by
 have key:=al (g:=ga (ua call yd) (fun s=>some (tidy [0,3,4,5] s)))
  (fun j t=>∃ fr fk s,(fr=0∨fr=n * 256)∧fk≤n∧WX n s∧t=⟨BA n ((n:Int) - 1 - j),Th R0 R1 S nl nr fr sets s.C n [.seq 1 false (Ka s.uc) fk nk,.map (Et s.M)]⟩∧wj n s0=wj (n - j) s)
  (fun ex t=>∃ fr fk,(fr=0∨fr=n * 256)∧fk≤n∧ex= .exit 0∧t=⟨((BA n (-1)).set 23 (.pv (i64 (-1)))).set 24 (.pv (.bool false)),Th R0 R1 S nl nr fr sets (wj n s0).C n [.seq 1 false (Ka (wj n s0).uc) fk nk,.map (Et (wj n s0).M)]⟩)
  qa n 0 ⟨BA n ((n:Int) - 1 - (0:Nat)),Th R0 R1 S nl nr 0 sets s0.C n [.seq 1 false (Ka s0.uc) 0 nk,.map (Et s0.M)]⟩ (by unfold qa;omega) (by omega) ⟨0,0,s0,.inl rfl,by omega,Ba,rfl,rfl⟩ ?_ ?_
 ·obtain⟨ex,t,h,_,fr,fk,q1,q2,rfl,rfl⟩:=key
  rw[show ((n:Int) - 1 - (0:Nat))=(n:Int) - 1 by omega] at h
  exact⟨fr,fk,q1,h,q2⟩
 ·rintro j hj t ⟨fr,fk,s,hf,hfk,hs,rfl,hl⟩
  obtain⟨i,hi⟩:∃ i,n - j=i+1:=⟨n - j - 1,by omega⟩
  rw[hi,wj] at hl
  obtain⟨fr',hf',hr⟩:=nL call R0 R1 S nl nr nk fr fk sets n s i hs.hC hs.hk hf hfk (by omega) hn
   (fun to h=>hs.cC to (List.mem_of_mem_drop (List.mem_of_mem_take h))) (fun p hp=>(hs.cM p hp).1)
  rw[show ((n:Int) - 1 - (j:Int))=(i:Int) by omega]
  refine .inl ⟨_,hr,fr',n,Xk i s,hf',by omega,LB (by omega) hs,?_,?_⟩
  ·rw[show ((n:Int) - 1 - ((j+1:Nat):Int))=(i:Int) - 1 by omega]
  ·rw[hl,show n - (j+1)=i by omega]
 ·rintro t ⟨fr,fk,s,hf,hfk,hs,rfl,hl⟩
  rw[Nat.sub_self,wj] at hl
  rw[show ((n:Int) - 1 - (n:Int))= -1 by omega]
  refine⟨.exit 0,_,?_,rfl,fr,fk,hf,hfk,rfl,rfl⟩
  rw[hl]
  have e1:decide ((-1:Int)≥0)=false:=by decide
  simp -implicitDefEqProofs only[SP,SA,SQ,sevalprocAttr,-List.reduceReplicate,ga,yd,e1,BA,Th]
theorem wG (n:Nat):Dk [PV.int .i64 0] n=Ka (List.replicate n 0):=by
 induction n with
 |zero=>rfl
 |succ n ih=>rw[Dk,ih];rfl
theorem KQ (hn:n≤64) (h0:0 < n) (hs:sets.length=n) (hC:C.length=n * 256) (cC:∀ c∈C,c < n):
 ∃ fr fk v,(fr=0∨fr=n * 256)∧Ri call zi [.ptr 3 0] (Th R0 R1 S nl nr 0 sets C n [])=
  some (v,Th R0 R1 S nl nr fr sets (Re n C).C n [.seq 1 false (Ka (Re n C).uc) fk false,.map (Et (Re n C).M)]):=by
 obtain⟨fr,fk,hf,hl,hfk⟩:=XL call R0 R1 S nl nr false sets n ⟨C,List.replicate n 0,[]⟩ hn h0
  ⟨hC,by simp,cC,by intro c hc;rw[List.eq_of_mem_replicate hc];omega,by simp⟩
 refine⟨fr,fk,.own 6 n,hf,?_⟩
 have hlen:(sets.map Zh).length=n:=by rw[List.length_map,hs]
 have r0:Dk [PV.int .i64 0] n=Ka (List.replicate n 0):=wG n
 have t1:((n:Int)).toNat=n:=by simp
 have t2:IntKind.i64.wrap ((n:Int) - 1)=(n:Int) - 1:=Ca (by omega)
 have e1:(0≤(n:Int))=True:=by simp
 have e2:qb n 8:=by unfold qb;omega
 have e3:((n:Int)≤(n:Int))=True:=by simp
 unfold Re
 generalize wj n ⟨C,List.replicate n 0,[]⟩=g at *
 generalize List.replicate n (0:Int)=zs at *
 simp only[tidy,Bc,BA,Th,Et,List.map_nil] at hl
 simp -implicitDefEqProofs only[SP,SA,SQ,sevalprocAttr,-List.reduceReplicate,zi,hlen,r0,t1,t2,e1,eq_true e2,e3,Tp,tidy,Bc,Th]
 rw[hl]
 simp -implicitDefEqProofs only[SP,SA,SQ,sevalprocAttr,-List.reduceReplicate,Th,Et]
end
end Go.AM.B1
namespace Go.AM.B1
open Go.AM
structure ze where
 lo:Int
 hi:Int
 to:Int
deriving DecidableEq
def GF (e:ze):PV:= .agg [i64 e.lo,i64 e.hi,i64 e.to]
def Yc (l:List ze):List Int:=l.flatMap fun e=>[e.lo,e.hi,e.to]
theorem Sj (l:List ze):(Yc l).length=l.length * 3:=by
 induction l with
 |nil=>rfl
 |cons e l ih=>simp only[Yc,List.flatMap_cons,List.length_append,List.length_cons,List.length_nil] at ih ⊢;omega
theorem dm (l:List ze) (e:ze):Yc (l++[e])=Yc l++[e.lo,e.hi,e.to]:=by simp[Yc]
def Mf (x to:Int) (l:List ze):List ze:=
 if to= -2 then l else match l.getLast? with
  |some e=>if e.to=to∧e.hi=x - 1 then l.dropLast++[⟨e.lo,x,e.to⟩] else l++[⟨x,x,to⟩]
  |none=>l++[⟨x,x,to⟩]
theorem MX (a b c:Int):Ka [a,b,c]=[.pv (i64 a),.pv (i64 b),.pv (i64 c)]:=rfl
theorem dF (a b:List Int):Ka (a++b)=Ka a++Ka b:=by simp[Ka]
abbrev yt (row:List Int) (n:Nat) (x:Int):Tr:=((Tr.lf.set 8 (.pv (i64 x))).set 7 (.pv (ei row))).set 3 (.own 0 n)
theorem nF (l:List Int) (e:ze) (k:Nat) (hk:k < 3):(Ka (l++[e.lo,e.hi,e.to]))[l.length+k]? =some (.pv (i64 (if k=0 then e.lo else if k=1 then e.hi else e.to))):=by
 rw[Ka,List.getElem?_map,List.getElem?_append_right (by omega),Nat.add_sub_cancel_left]
 match k,hk with
 |0,_=>rfl
 |1,_=>rfl
 |2,_=>rfl
section
variable (call:Wa) (row:List Int) (x:Nat) (to:Int) (fl:Nat)
 (hx:x < 256) (hto:row[x]? =some to)
include hx hto
theorem KP (l:List ze) (nl:Bool) (h:to= -2):ga (ua call Sc) (fun s=>some (tidy [3,7,8] s)) ⟨yt row l.length x,[.seq 3 true (Ka (Yc l)) fl nl]⟩=
 some (.norm,⟨yt row l.length (x+1:Nat),[.seq 3 true (Ka (Yc l)) fl nl]⟩):=by
 have e1:decide ((x:Int) < 256)=true:=Fa (by omega)
 have e2:(to== -2)=true:=by simp[h]
 have hq:Ia (x:Int) 256:=by unfold Ia;omega
 have t1:((x:Int)).toNat=x:=by simp
 have t2:=Ua (i:=x) (n:=256) hx (by unfold maxLen;omega)
 have ht:(row.map i64)[x]? =some (i64 to):=by rw[List.getElem?_map,hto];rfl
 simp -implicitDefEqProofs only[SP,SA,SQ,sevalprocAttr,ga,Sc,e1,e2,eq_true hq,t1,t2,ht,wa,tidy,Bc,yt]
theorem GN (nl:Bool) (h:to≠ -2):ga (ua call Sc) (fun s=>some (tidy [3,7,8] s)) ⟨yt row 0 x,[.seq 3 true [] 0 nl]⟩=
 some (.norm,⟨yt row 1 (x+1:Nat),[.seq 3 true (Ka [(x:Int),x,to]) 0 false]⟩):=by
 have e1:decide ((x:Int) < 256)=true:=Fa (by omega)
 have e2:(to== -2)=false:=vi h
 have hq:Ia (x:Int) 256:=by unfold Ia;omega
 have t1:((x:Int)).toNat=x:=by simp
 have t2:=Ua (i:=x) (n:=256) hx (by unfold maxLen;omega)
 have ht:(row.map i64)[x]? =some (i64 to):=by rw[List.getElem?_map,hto];rfl
 have q1:qb 1 24:=by unfold qb;omega
 simp -implicitDefEqProofs only[SP,SA,SQ,sevalprocAttr,ga,Sc,e1,e2,eq_true hq,t1,t2,ht,eq_true q1,wa,tidy,Bc,yt,Cj,si,AV.CC,AV.Ip,Ka]
variable (l:List ze) (e:ze) (hl:l.length < 256) (hfl:fl≤(l.length+1) * 3)
include hl hfl
theorem qS (h:to≠ -2) (h1:e.to=to) (h2:e.hi=(x:Int) - 1):ga (ua call Sc) (fun s=>some (tidy [3,7,8] s)) ⟨yt row (l.length+1) x,[.seq 3 true (Ka (Yc l++[e.lo,e.hi,e.to])) fl false]⟩=
 some (.norm,⟨yt row (l.length+1) (x+1:Nat),[.seq 3 true (Ka (Yc l++[e.lo,(x:Int),e.to])) ((l.length+1) * 3) false]⟩):=by
 have e1:decide ((x:Int) < 256)=true:=Fa (by omega)
 have e2:(to== -2)=false:=vi h
 have hq:Ia (x:Int) 256:=by unfold Ia;omega
 have t1:((x:Int)).toNat=x:=by simp
 have t2:=Ua (i:=x) (n:=256) hx (by unfold maxLen;omega)
 have ht:(row.map i64)[x]? =some (i64 to):=by rw[List.getElem?_map,hto];rfl
 have e3:decide (((l.length+1:Nat):Int) > 0)=true:=Fa (by omega)
 have t3:IntKind.i64.wrap (((l.length+1:Nat):Int) - 1)=(l.length:Int):=by rw[Ca (by omega)];omega
 have t4:((l.length:Int)).toNat=l.length:=by simp
 have t5:IntKind.i64.wrap ((x:Int) - 1)=(x:Int) - 1:=Ca (by omega)
 have hq2:Ia (l.length:Int) (l.length+1):=by unfold Ia;omega
 have hlen:(Ka (Yc l++[e.lo,e.hi,e.to])).length=(l.length+1) * 3:=by rw[pb,List.length_append,Sj];simp;omega
 have w1:Qh 3 (l.length+1) fl (Ka (Yc l++[e.lo,e.hi,e.to])).length:=by rw[hlen];unfold Qh;omega
 have w2:((Ka (Yc l++[e.lo,e.hi,e.to])).length=(l.length+1) * 3)=True:=eq_true hlen
 have g2:=nF (Yc l) e 2 (by omega)
 have g1:=nF (Yc l) e 1 (by omega)
 rw[Sj] at g1 g2
 simp only[h1,h2] at g1 g2
 have b1:(to==to)=true:=by simp
 have b2:((x:Int) - 1==(x:Int) - 1)=true:=by simp
 have w3:(l.length * 3+1+1≤(l.length+1) * 3)=True:=eq_true (by omega)
 have hset:(Ka (Yc l++[e.lo,(x:Int) - 1,to])).set (l.length * 3+1) (.pv (i64 x))=Ka (Yc l++[e.lo,(x:Int),to]):=by
  rw[aj,←Sj,List.set_append_right _ _ (by omega),Nat.add_sub_cancel_left];rfl
 rw[h1,h2] at *
 generalize Yc l++[e.lo,(x:Int) - 1,to]=cs at *
 simp -implicitDefEqProofs only[SP,SA,SQ,sevalprocAttr,ga,Sc,e1,e2,e3,eq_true hq,eq_true hq2,t1,t2,t3,t4,t5,ht,g1,g2,eq_true w1,w2,w3,b1,b2,hset,wa,tidy,Bc,yt]
theorem aR (h:to≠ -2) (h1:¬(e.to=to∧e.hi=(x:Int) - 1)):ga (ua call Sc) (fun s=>some (tidy [3,7,8] s)) ⟨yt row (l.length+1) x,[.seq 3 true (Ka (Yc l++[e.lo,e.hi,e.to])) fl false]⟩=
 some (.norm,⟨yt row (l.length+1+1) (x+1:Nat),[.seq 3 true (Ka (Yc l++[e.lo,e.hi,e.to])++Ka [(x:Int),x,to]) fl false]⟩):=by
 have e1:decide ((x:Int) < 256)=true:=Fa (by omega)
 have e2:(to== -2)=false:=vi h
 have hq:Ia (x:Int) 256:=by unfold Ia;omega
 have t1:((x:Int)).toNat=x:=by simp
 have t2:=Ua (i:=x) (n:=256) hx (by unfold maxLen;omega)
 have ht:(row.map i64)[x]? =some (i64 to):=by rw[List.getElem?_map,hto];rfl
 have e3:decide (((l.length+1:Nat):Int) > 0)=true:=Fa (by omega)
 have t3:IntKind.i64.wrap (((l.length+1:Nat):Int) - 1)=(l.length:Int):=by rw[Ca (by omega)];omega
 have t4:((l.length:Int)).toNat=l.length:=by simp
 have t5:IntKind.i64.wrap ((x:Int) - 1)=(x:Int) - 1:=Ca (by omega)
 have hq2:Ia (l.length:Int) (l.length+1):=by unfold Ia;omega
 have hlen:(Ka (Yc l++[e.lo,e.hi,e.to])).length=(l.length+1) * 3:=by rw[pb,List.length_append,Sj];simp;omega
 have w1:Qh 3 (l.length+1) fl (Ka (Yc l++[e.lo,e.hi,e.to])).length:=by rw[hlen];unfold Qh;omega
 have w2:((Ka (Yc l++[e.lo,e.hi,e.to])).length=(l.length+1) * 3)=True:=eq_true hlen
 have w2':((l.length+1) * 3=(Ka (Yc l++[e.lo,e.hi,e.to])).length)=True:=eq_true hlen.symm
 have g2:(Ka (Yc l++[e.lo,e.hi,e.to]))[(Yc l).length+2]? =some (.pv (i64 e.to)):=nF (Yc l) e 2 (by omega)
 have g1:(Ka (Yc l++[e.lo,e.hi,e.to]))[(Yc l).length+1]? =some (.pv (i64 e.hi)):=nF (Yc l) e 1 (by omega)
 rw[Sj] at g1 g2
 have q1:qb (l.length+1+1) 24:=by unfold qb;omega
 generalize Yc l++[e.lo,e.hi,e.to]=cs at *
 by_cases hb1:e.to=to
 ·have b1:(e.to==to)=true:=by simp[hb1]
  have b2:(e.hi==(x:Int) - 1)=false:=vi fun hh=>h1 ⟨hb1,hh⟩
  simp -implicitDefEqProofs only[SP,SA,SQ,sevalprocAttr,ga,Sc,e1,e2,e3,eq_true hq,eq_true hq2,t1,t2,t3,t4,t5,ht,g1,g2,eq_true w1,w2,w2',eq_true q1,b1,b2,wa,tidy,Bc,yt,Cj,si,AV.CC,AV.Ip,MX]
 ·have b1:(e.to==to)=false:=vi hb1
  simp -implicitDefEqProofs only[SP,SA,SQ,sevalprocAttr,ga,Sc,e1,e2,e3,eq_true hq,eq_true hq2,t1,t2,t3,t4,t5,ht,g1,g2,eq_true w1,w2,w2',eq_true q1,b1,wa,tidy,Bc,yt,Cj,si,AV.CC,AV.Ip,MX]
end
end Go.AM.B1
namespace Go.AM.B1
open Go.AM
def me (row:List Int):List Nat→List ze→List ze
 | [],l=>l
 |x::xs,l=>me row xs (Mf x (row.getD x 0) l)
def Qf (row:List Int):List ze:=me row (List.range 256) []
def Wd (l:List ze):PV:=if l.isEmpty then .ma else .lit 3 (l.map GF)
theorem Fy (x:Int) (l:List ze):Mf x (-2) l=l:=by simp[Mf]
theorem Mw {x to:Int} (h:to≠ -2):Mf x to []=[⟨x,x,to⟩]:=by simp[Mf,h]
theorem ry {x:Int} {l:List ze} {e:ze} (h:e.to≠ -2) (h2:e.hi=x - 1):Mf x e.to (l++[e])=l++[⟨e.lo,x,e.to⟩]:=by simp[Mf,h,h2]
theorem nv {x to:Int} {l:List ze} {e:ze} (h:to≠ -2) (h2:¬(e.to=to∧e.hi=x - 1)):Mf x to (l++[e])=l++[e]++[⟨x,x,to⟩]:=by
 simp only[Mf,if_neg h,List.getLast?_append,List.getLast?_singleton,Option.some_or,if_neg h2]
theorem dH (H:List ba) (d:Nat) (l:List Int):Ra (dc H d) (Ka l)=some (l.map i64):=by
 induction l with
 |nil=>rfl
 |cons a l ih=>simp only[Ka,List.map_cons,Ra,lg,Option.bind_some] at ih ⊢;rw[ih];rfl
theorem PM:∀ (l:List ze),chunk 3 true l.length ((Yc l).map i64)=l.map GF
 | []=>rfl
 |e::l=>by
  have:=PM l
  rw[List.length_cons,chunk]
  simp only[Yc,List.flatMap_cons,List.cons_append,List.nil_append,List.map_cons,List.take,List.drop,if_true] at this ⊢
  rw[this];rfl
theorem NN (H:List ba) (id:Nat) (l:List ze) (fl:Nat) (h:H[id]? =some (.seq 3 true (Ka (Yc l)) fl l.isEmpty)):dc H deep (.own id l.length)=some (Wd l):=by
 have hl:(l.length * 3=(Ka (Yc l)).length)=True:=by rw[pb,Sj];exact eq_self _
 rw[Dc]
 simp only[dc,h,hl,Bool.true_or,and_self,if_true]
 unfold Wd
 cases hn:l.isEmpty with
 |true=>rfl
 |false=>simp only[Bool.false_eq_true,if_false,dH,Option.map_some,PM]
section
variable (row:List Int) (hrow:row.length=256)
include hrow
theorem VL (call:Wa):∃ fl,ab (ga (ua call Sc) (fun s=>some (tidy [3,7,8] s))) qa ⟨yt row 0 0,[.seq 3 true [] 0 true]⟩=
 some (.exit 0,⟨(yt row (Qf row).length 256).set 9 (.pv (.bool false)),[.seq 3 true (Ka (Yc (Qf row))) fl (Qf row).isEmpty]⟩):=by
 unfold Qf
 generalize hxs:List.range 256=xs
 have key:=al (g:=ga (ua call Sc) (fun s=>some (tidy [3,7,8] s)))
  (fun x t=>∃ fl l,fl≤l.length * 3∧l.length≤x∧t=⟨yt row l.length x,[.seq 3 true (Ka (Yc l)) fl l.isEmpty]⟩∧me row xs []=me row (xs.drop x) l)
  (fun ex t=>∃ fl,ex= .exit 0∧t=⟨(yt row (me row xs []).length 256).set 9 (.pv (.bool false)),[.seq 3 true (Ka (Yc (me row xs []))) fl (me row xs []).isEmpty]⟩)
  qa 256 0 ⟨yt row 0 (0:Nat),[.seq 3 true [] 0 true]⟩ (by unfold qa;omega) (by omega) ⟨0,[],by simp,by simp,rfl,rfl⟩ ?_ ?_
 ·obtain⟨ex,t,h,_,fl,rfl,rfl⟩:=key
  exact⟨fl,h⟩
 ·rintro x hx t ⟨fl,l,hf,hlx,rfl,hl⟩
  have hd:=Jq hx
  rw[hxs] at hd
  obtain⟨to,ht⟩:∃ to,row[x]? =some to:=⟨row[x],by simp[hrow,hx]⟩
  have hgd:row.getD x 0=to:=by simp[List.getD_eq_getElem?_getD,ht]
  rw[hd,me,hgd] at hl
  by_cases h2:to= -2
  ·rw[h2,Fy] at hl
   exact .inl ⟨_,KP call row x to fl hx ht l _ h2,fl,l,hf,by omega,rfl,hl⟩
  rcases List.eq_nil_or_concat l with rfl | ⟨l',e,rfl⟩
  ·rw[Mw h2] at hl
   have hf0:fl=0:=by simpa using hf
   subst hf0
   exact .inl ⟨_,GN call row x to hx ht true h2,0,[⟨x,x,to⟩],by simp,by simp,rfl,hl⟩
  ·simp only[List.concat_eq_append] at *
   have hem:(l'++[e]).isEmpty=false:=by simp
   have hlen:(l'++[e]).length=l'.length+1:=by simp
   rw[hlen] at hf hlx
   rw[hem,hlen,dm]
   by_cases h3:e.to=to∧e.hi=(x:Int) - 1
   ·obtain⟨h3,h4⟩:=h3
    rw[← h3,ry (by rw[h3];exact h2) h4] at hl
    refine .inl ⟨_,qS call row x to fl hx ht l' e (by omega) hf h2 h3 h4,(l'.length+1) * 3,l'++[⟨e.lo,x,e.to⟩],by simp,by simp;omega,?_,hl⟩
    rw[dm];simp
   ·rw[nv h2 h3] at hl
    refine .inl ⟨_,aR call row x to fl hx ht l' e (by omega) hf h2 h3,fl,_,?_,?_,?_,hl⟩
    ·simp;omega
    ·simp;omega
    ·rw[dm,dm,dF];simp[Ka]
 ·rintro t ⟨fl,l,hf,hlx,rfl,hl⟩
  rw[List.drop_eq_nil_of_le (by rw[← hxs,List.length_range];exact Nat.le_refl _)] at hl
  refine⟨.exit 0,_,?_,rfl,fl,rfl,rfl⟩
  rw[hl]
  have e1:decide (((256:Nat):Int) < 256)=false:=by decide
  simp -implicitDefEqProofs only[SP,SA,SQ,sevalprocAttr,ga,Sc,e1,yt,me]
theorem FQ:Zp [ei row]=some (Wd (Qf row)):=by
 obtain⟨fl,hl⟩:=VL row hrow (Ea (fun _=>none) 8)
 have ht:=NN [.seq 3 true (Ka (Yc (Qf row))) fl (Qf row).isEmpty] 0 (Qf row) fl rfl
 have h9:(row.map i64).map AV.pv=Ka row:=(ct row).symm
 have p0:((Ka row).length=256)=True:=by rw[pb,hrow];exact eq_self _
 have p1:(256≤(Ka row).length)=True:=by rw[pb,hrow];exact eq_true (Nat.le_refl _)
 have p2:List.take 256 (Ka row)=Ka row:=List.take_of_length_le (by rw[pb,hrow];exact Nat.le_refl _)
 have p3:=eu row
 have p5:=wF row
 have p6:=dH [] 0 row
 have p8:List.take 256 (row.map i64)=row.map i64:=List.take_of_length_le (by rw[List.length_map,hrow];exact Nat.le_refl _)
 have p7:(256≤(row.map i64).length)=True:=by rw[List.length_map,hrow];exact eq_true (Nat.le_refl _)
 have p4:((row.map i64).length=256)=True:=by rw[List.length_map,hrow];exact eq_self _
 generalize Qf row=es at *
 simp only[tidy,Bc,yt] at hl
 simp -implicitDefEqProofs only[Zp,SP,SA,SQ,sevalprocAttr,wu,h9,p0,p1,p2,p3,p4,p5,p6,p7,p8,Be,Tp,tidy,Bc]
 rw[hl]
 simp -implicitDefEqProofs only[SP,SA,SQ,sevalprocAttr,ht]
end
end Go.AM.B1
namespace Go.AM.B1
open Go.AM
def Rt (a:Int):List Int→Nat→Option Nat
 | [],_=>none
 |b::l,k=>if a=b then some k else Rt a l (k+1)
def pK (l:List Int) (k:Nat):List (PV×PV):=(l.zipIdx k).map fun p=>(i64 p.1,i64 p.2)
theorem DA (a:Int) (l:List Int) (k:Nat):pK (a::l) k=(i64 a,i64 k)::pK l (k+1):=rfl
theorem FG (a:Int):∀ (l:List Int) (k:Nat),pK (l++[a]) k=pK l k++[(i64 a,i64 (k+l.length:Nat))]
 | [],k=>by simp[pK]
 |b::l,k=>by rw[List.cons_append,DA,FG a l (k+1),DA];simp;omega
theorem KO {a:Int}:∀ {l:List Int} {k i:Nat},Rt a l k=some i→k≤i
 |b::l,k,i,h=>by
  simp only[Rt] at h
  split at h
  ·injection h with h;omega
  ·have:=KO h;omega
theorem YJ (a:Int):∀ (l:List Int) (k j:Nat),zm (.one 1) (i64 a) (pK l k) j=some ((Rt a l k).map fun i=>(j+(i - k),i64 i)):=by
 intro l
 induction l with
 |nil=>intro k j;rfl
 |cons b l ih=>
  intro k j
  have he:Zk (.one 1) (i64 a) (i64 b)=some (decide (a=b)):=by
   show (if IntKind.i64=IntKind.i64 then some (a==b) else none)=_
   rw[if_pos rfl]
   congr 1
  rw[DA,zm,he]
  simp only[Option.bind_some,Rt]
  by_cases h:a=b
  ·simp[h]
  ·rw[if_neg h,ih]
   simp only[h,decide_false,Bool.false_eq_true,if_false,Option.some.injEq]
   cases hi:Rt a l (k+1) with
   |none=>rfl
   |some i=>
    have:=KO hi
    simp only[Option.map_some,Option.some.injEq,Prod.mk.injEq,and_true]
    omega
theorem WD (a:Int):(Zk (.one 1) (i64 a) (i64 a)).isSome=true:=rfl
abbrev Mn (R0 R1:ba) (S:PV) (nl nr:Bool) (fr:Nat) (sets:List Al) (C:List Int) (n:Nat) (L M:ba) (O:List Int) (out:List PV) (no:Bool) (T:List ba):List ba:=
 Th R0 R1 S nl nr fr sets C n (L::M:: .box [.pv .ma]:: .map (pK O 0):: .tok 1 O.length false:: .box [.uq 12 no 1 out]:: .tok 1 out.length no::T)
abbrev Hx (q:Nat) (k:Int) (O:List Int) (ib:List Int) (x:Int):Tr:=
 (((((((((Tr.lf.set 32 (.pv (i64 x))).set 31 (.pv (ei ib))).set 7 (.ptr q 0)).set 6 (.pv (i64 k))).set 5 (.ptr 11 0)).set 4 (.uq 10 false 1 (O.map i64))).set 3 (.mp 9)).set 2 (.ptr 8 0)).set 0 (.ptr 3 0))
def Ai (x:Nat) (to:Int) (r:List Int×List Int):List Int×List Int:=
 if to < 0 then r else match Rt to r.1 0 with
  |some k=>(r.1,r.2.set x k)
  |none=>(r.1++[to],r.2.set x r.1.length)
section
variable (call:Wa) (R0 R1:ba) (S:PV) (nl nr:Bool) (fr:Nat) (sets:List Al) (C:List Int) (n:Nat) (L M:ba) (O:List Int) (out:List PV) (no:Bool) (J:List ba)
 (k:Int) (ib row:List Int) (x:Nat) (to:Int) (q:Nat) (hx:x < 256) (hto:ib[x]? =some to)
include hx hto
theorem CP (h:to < 0):
 ga (ua call fc) (fun s=>some (tidy [0,2,3,4,5,6,7,31,32] s)) ⟨Hx q k O ib x,Mn R0 R1 S nl nr fr sets C n L M O out no (J++[.box (Ka row)])⟩=
  some (.norm,⟨Hx q k O ib (x+1:Nat),Mn R0 R1 S nl nr fr sets C n L M O out no (J++[.box (Ka row)])⟩):=by
 have e1:decide ((x:Int) < 256)=true:=Fa (by omega)
 have e2:decide (to < 0)=true:=Fa (by omega)
 have hq:Ia (x:Int) 256:=by unfold Ia;omega
 have t1:((x:Int)).toNat=x:=by simp
 have t2:=Ua (i:=x) (n:=256) hx (by unfold maxLen;omega)
 have ht:(ib.map i64)[x]? =some (i64 to):=by rw[List.getElem?_map,hto];rfl
 simp -implicitDefEqProofs only[SP,SA,SQ,sevalprocAttr,-List.reduceReplicate,ga,fc,e1,e2,eq_true hq,t1,t2,ht,wa,tidy,Bc,Hx,Mn,Th]
theorem kT (hq13:q=J.length+1+1+1+1+1+1+1+1+1+1+1+1+1) (hrow:row.length=256) (h:¬to < 0) {j:Nat} (hj:Rt to O 0=some j):
 ga (ua call fc) (fun s=>some (tidy [0,2,3,4,5,6,7,31,32] s)) ⟨Hx q k O ib x,Mn R0 R1 S nl nr fr sets C n L M O out no (J++[.box (Ka row)])⟩=
  some (.norm,⟨Hx q k O ib (x+1:Nat),Mn R0 R1 S nl nr fr sets C n L M O out no (J++[.box (Ka (row.set x j))])⟩):=by
 have e1:decide ((x:Int) < 256)=true:=Fa (by omega)
 have e2:decide (to < 0)=false:=Ga (by omega)
 have hq:Ia (x:Int) 256:=by unfold Ia;omega
 have t1:((x:Int)).toNat=x:=by simp
 have t2:=Ua (i:=x) (n:=256) hx (by unfold maxLen;omega)
 have ht:(ib.map i64)[x]? =some (i64 to):=by rw[List.getElem?_map,hto];rfl
 have hf:=YJ to O 0 0
 rw[hj] at hf
 simp only[Option.map_some] at hf
 have his:=WD to
 have hle:(x+1≤(Ka row).length)=True:=by rw[pb];exact eq_true (by omega)
 subst hq13
 simp -implicitDefEqProofs only[SP,SA,SQ,sevalprocAttr,-List.reduceReplicate,ga,fc,e1,e2,eq_true hq,t1,t2,ht,hf,eq_true his,hle,aj,wo,zo,wa,tidy,Bc,Hx,Mn,Th]
theorem KT (hq13:q=J.length+1+1+1+1+1+1+1+1+1+1+1+1+1) (hrow:row.length=256) (h:¬to < 0) (hj:Rt to O 0=none) (hO:O.length < 100):
 ga (ua call fc) (fun s=>some (tidy [0,2,3,4,5,6,7,31,32] s)) ⟨Hx q k O ib x,Mn R0 R1 S nl nr fr sets C n L M O out no (J++[.box (Ka row)])⟩=
  some (.norm,⟨Hx q k (O++[to]) ib (x+1:Nat),Mn R0 R1 S nl nr fr sets C n L M (O++[to]) out no (J++[.box (Ka (row.set x O.length))])⟩):=by
 have e1:decide ((x:Int) < 256)=true:=Fa (by omega)
 have e2:decide (to < 0)=false:=Ga (by omega)
 have hq:Ia (x:Int) 256:=by unfold Ia;omega
 have t1:((x:Int)).toNat=x:=by simp
 have t2:=Ua (i:=x) (n:=256) hx (by unfold maxLen;omega)
 have ht:(ib.map i64)[x]? =some (i64 to):=by rw[List.getElem?_map,hto];rfl
 have hf:=YJ to O 0 0
 rw[hj] at hf
 simp only[Option.map_none] at hf
 have his:=WD to
 have hle:(x+1≤(Ka row).length)=True:=by rw[pb];exact eq_true (by omega)
 have hlen:(O.map i64).length=O.length:=by simp
 have q1:qb (O.length+1) 8:=by unfold qb;omega
 have hp:=FG to O 0
 rw[Nat.zero_add] at hp
 have hlen2:(O++[to]).length=O.length+1:=by simp
 have hmap:(O++[to]).map i64=O.map i64++[i64 to]:=by simp
 subst hq13
 unfold Hx Mn
 rw[hp,hlen2,hmap]
 simp -implicitDefEqProofs only[SP,SA,SQ,sevalprocAttr,-List.reduceReplicate,ga,fc,e1,e2,eq_true hq,t1,t2,ht,hf,eq_true his,hle,hlen,eq_true q1,aj,wo,zo,wa,tidy,Bc,Th,si,AV.CC,AV.Ip]
end
end Go.AM.B1
