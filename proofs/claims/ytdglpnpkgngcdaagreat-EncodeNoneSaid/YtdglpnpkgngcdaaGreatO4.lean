/- What functions of the program compute. -/
import Derived.Test.YtdglpnpkgngcdaaGreatO3
import Derived.Test.YtdglpnpkgngcdaaGreatO2
set_option linter.unusedVariables false
set_option linter.unusedSimpArgs false
namespace Go.AM.B1
open Go.AM Go.AM.So
theorem GC {top:Int}:∀ {l:List (Int×Int)} {last:Int},Ma top last l=true→∀ p∈l,last < p.1 - 1
 |q::l,last,h,p,hp=>by
  obtain⟨h1,h2,h3,h4,h5⟩:=ae h
  rcases List.mem_cons.1 hp with rfl | hp
  ·omega
  ·have:=GC h5 p hp;omega
theorem Lm {top last x:Int} {l:List (Int×Int)} (h:Ma top last l=true) (hx:jj x l):last+1 < x:=by
 obtain⟨p,hp,h1,h2⟩:=hx
 have:=GC h p hp;omega
theorem Br {top:Int}:∀ (n:Nat) (a b:List (Int×Int)) (la lb:Int),Ma top la a=true→Ma top lb b=true→a.length+b.length≤n→
 (∀ x,jj x (Ff n a b)↔jj x a∧jj x b)∧∀ p∈Ff n a b,p.1≤p.2
 |0,a,b,la,lb,_,_,hn=>by
  have:a=[]:=List.eq_nil_of_length_eq_zero (by omega)
  subst this
  exact⟨fun x=>by simp[Ff,Ul],by simp[Ff]⟩
 |n+1,[],b,la,lb,_,_,hn=>⟨fun x=>by simp[Ff,Ul],by simp[Ff]⟩
 |n+1,p::a,[],la,lb,_,_,hn=>⟨fun x=>by simp[Ff,Ul],by simp[Ff]⟩
 |n+1,p::a,q::b,la,lb,ha,hb,hn=>by
  obtain⟨a1,a2,a3,a4,a5⟩:=ae ha
  obtain⟨b1,b2,b3,b4,b5⟩:=ae hb
  rw[Ff]
  have hlo:p.1≤(if q.1 > p.1 then q.1 else p.1)∧q.1≤(if q.1 > p.1 then q.1 else p.1)∧((if q.1 > p.1 then q.1 else p.1)=p.1∨(if q.1 > p.1 then q.1 else p.1)=q.1):=by split <;> omega
  have hhi:(if q.2 < p.2 then q.2 else p.2)≤p.2∧(if q.2 < p.2 then q.2 else p.2)≤q.2∧((if q.2 < p.2 then q.2 else p.2)=p.2∨(if q.2 < p.2 then q.2 else p.2)=q.2):=by split <;> omega
  generalize (if q.1 > p.1 then q.1 else p.1)=lo at *
  generalize (if q.2 < p.2 then q.2 else p.2)=hi at *
  have hpc:∀ x,jj x (if lo≤hi then [(lo,hi)] else [])↔(p.1≤x∧x≤p.2)∧(q.1≤x∧x≤q.2):=by
   intro x
   by_cases h:lo≤hi
   ·rw[if_pos h,Dn];simp only;omega
   ·rw[if_neg h]
    simp only[Ul,false_iff]
    omega
  have hpl:∀ r∈(if lo≤hi then [(lo,hi)] else []),r.1≤r.2:=by
   intro r hr
   by_cases h:lo≤hi
   ·rw[if_pos h] at hr;simp at hr;subst hr;exact h
   ·rw[if_neg h] at hr;simp at hr
  by_cases c:p.2 < q.2
  ·rw[if_pos c]
   have ih:=Br n a (q::b) p.2 lb a5 hb (by simp at hn ⊢;omega)
   refine⟨fun x=> ?_,fun r hr=> ?_⟩
   ·rw[mr,hpc,ih.1,ql,ql]
    have hfar:jj x b→q.2+1 < x:=Lm b5
    constructor
    ·rintro (⟨h1,h2⟩ | ⟨h1,h2⟩)
     ·exact⟨.inl h1,.inl h2⟩
     ·exact⟨.inr h1,h2⟩
    ·rintro⟨h1 | h1,h2⟩
     ·rcases h2 with h2 | h2
      ·exact .inl ⟨h1,h2⟩
      ·have:=hfar h2;omega
     ·exact .inr ⟨h1,h2⟩
   ·rcases List.mem_append.1 hr with h | h
    ·exact hpl r h
    ·exact ih.2 r h
  ·rw[if_neg c]
   have ih:=Br n (p::a) b la q.2 ha b5 (by simp at hn ⊢;omega)
   refine⟨fun x=> ?_,fun r hr=> ?_⟩
   ·rw[mr,hpc,ih.1,ql,ql]
    have hfar:jj x a→p.2+1 < x:=Lm a5
    constructor
    ·rintro (⟨h1,h2⟩ | ⟨h1,h2⟩)
     ·exact⟨.inl h1,.inl h2⟩
     ·exact⟨h1,.inr h2⟩
    ·rintro⟨h1,h2 | h2⟩
     ·rcases h1 with h1 | h1
      ·exact .inl ⟨h1,h2⟩
      ·have:=hfar h1;omega
     ·exact .inr ⟨h1,h2⟩
   ·rcases List.mem_append.1 hr with h | h
    ·exact hpl r h
    ·exact ih.2 r h
theorem oK {top:Int} {a b:List (Int×Int)} (ha:Ma top (-2) a=true) (hb:Ma top (-2) b=true):Ff (a.length+b.length) a b≠[]↔∃ x,jj x a∧jj x b:=by
 have h:=Br (a.length+b.length) a b (-2) (-2) ha hb (Nat.le_refl _)
 constructor
 ·intro hne
  obtain⟨p,r,hpr⟩:=List.exists_cons_of_ne_nil hne
  have hp:p∈Ff (a.length+b.length) a b:=by rw[hpr];simp
  exact⟨p.1,(h.1 p.1).1 ⟨p,hp,Int.le_refl _,h.2 p hp⟩⟩
 ·rintro⟨x,hx⟩ he
  have:=(h.1 x).2 hx
  rw[he] at this
  exact Ul x this
theorem Qv:∀ (n:Nat) (a b:List (Int×Int)),(Ff n a b).length≤n
 |0,a,b=>by simp[Ff]
 |n+1,[],b=>by simp[Ff]
 |n+1,p::a,[]=>by simp[Ff]
 |n+1,p::a,q::b=>by
  rw[Ff,List.length_append]
  generalize (if q.1 > p.1 then q.1 else p.1)=lo
  generalize (if q.2 < p.2 then q.2 else p.2)=hi
  have h1:(if lo≤hi then [(lo,hi)] else []).length≤1:=by
   by_cases h:lo≤hi
   ·rw[if_pos h];simp
   ·rw[if_neg h];simp
  by_cases c:p.2 < q.2
  ·rw[if_pos c];have:=Qv n a (q::b);omega
  ·rw[if_neg c];have:=Qv n (p::a) b;omega
theorem Dz (A B:PV) (a b:List (Int×Int)) (hA:Ai 2 A (Md a)) (hB:Ai 2 B (Md b)) (hva:Ma qx (-2) a=true) (hvb:Ma qx (-2) b=true) (hw:(a.length+b.length) * 16≤140737488355328):
 Zl [A,B]=some (.lit 2 (Md (Ff (a.length+b.length) a b))):=by
 have h1:=qu A a hA (by omega) hva
 have h2:=qu B b hB (by omega) hvb
 obtain⟨u,h3,h4⟩:=pI (.lit 2 (Md a)) (.lit 2 (Md b)) a b (.inr rfl) (.inr rfl) hw
 have h5:=Zk u _ h4 (by have:=Qv (a.length+b.length) a b;omega)
 rw[← zG] at h5
 have h6:rm [u]=some (.lit 2 (Md (Ff (a.length+b.length) a b))):=by
  simp -implicitDefEqProofs only[rm,SP,SA,SQ,sevalprocAttr,Vo,fg,zc,h5]
 simp -implicitDefEqProofs only[Zl,SP,SA,SQ,sevalprocAttr,Ap,fg,zc,h1,h2,h3,h6]
theorem Sq (v:PV) (l:List (Int×Int)) (hv:Ai 2 v (Md l)) (hw:l.length * 16≤140737488355328) (hval:Ma 255 (-2) l=true):Dg [v]=some (.lit 2 (Md l)):=by
 have h1:=Zk v l hv hw
 have h2:=Lr (.lit 2 (Md l)) l (.inr rfl) (by unfold maxLen;omega) 255 (by decide)
 rw[hval] at h2
 simp -implicitDefEqProofs only[Dg,SP,SA,SQ,sevalprocAttr,qn,fg,zc,h1,h2]
theorem fD (A B:PV) (a b:List (Int×Int)) (hA:Ai 2 A (Md a)) (hB:Ai 2 B (Md b)) (hva:Ma 255 (-2) a=true) (hvb:Ma 255 (-2) b=true) (hw:(a.length+b.length) * 16≤140737488355328):
 Ko [A,B]=some (.lit 2 (Md (Ff (a.length+b.length) a b))):=by
 have h1:=Sq A a hA (by omega) hva
 have h2:=Sq B b hB (by omega) hvb
 obtain⟨u,h3,h4⟩:=pI (.lit 2 (Md a)) (.lit 2 (Md b)) a b (.inr rfl) (.inr rfl) hw
 have h5:=Zk u _ h4 (by have:=Qv (a.length+b.length) a b;omega)
 rw[← SH] at h5
 have h6:wo [u]=some (.lit 2 (Md (Ff (a.length+b.length) a b))):=by
  simp -implicitDefEqProofs only[wo,SP,SA,SQ,sevalprocAttr,Vt,fg,zc,h5]
 simp -implicitDefEqProofs only[Ko,SP,SA,SQ,sevalprocAttr,Jt,fg,zc,h1,h2,h3,h6]
theorem Uz (n:Int) (l:List (Int×Int)):Sc n l=n+Sc 0 l:=by
 induction l generalizing n with
 |nil=>simp[Sc]
 |cons p l ih=>rw[Sc,Sc,ih,ih (0+(p.2 - p.1+1))];omega
theorem sq {top:Int}:∀ {l:List (Int×Int)} {last:Int},Ma top last l=true→0≤Sc 0 l∧(l≠[]→1≤Sc 0 l∧Sc 0 l≤top - last - 1∧Sc 0 l≤top+1)∧Sc 0 l≤max 0 (top+1)
 | [],last,_=>⟨by simp[Sc],fun h=>absurd rfl h,by simp[Sc];omega⟩
 |p::l,last,h=>by
  obtain⟨h1,h2,h3,h4,h5⟩:=ae h
  have ih:=sq h5
  rw[Sc,Uz]
  have key:l≠[]∨l=[]:=by cases l <;> simp
  rcases key with hl | hl
  ·have:=ih.2.1 hl
   exact⟨by omega,fun _=>⟨by omega,by omega,by omega⟩,by omega⟩
  ·subst hl
   simp only[Sc]
   exact⟨by omega,fun _=>⟨by omega,by omega,by omega⟩,by omega⟩
theorem pt {top:Int}:∀ {l:List (Int×Int)} {last:Int},Ma top last l=true→(l.length:Int)≤max 0 (top - last)
 | [],last,_=>by simp;omega
 |p::l,last,h=>by
  obtain⟨h1,h2,h3,h4,h5⟩:=ae h
  have:=pt h5
  simp only[List.length_cons]
  omega
theorem Su (v:PV) (l:List (Int×Int)) (hv:Ai 2 v (Md l)) (hw:l.length * 16≤140737488355328) (hval:Ma 255 (-2) l=true):qm [v]=some (i64 (Sc 0 l)):=by
 have h1:=Sq v l hv hw hval
 have h2:=YP (.lit 2 (Md l)) l (.inr rfl) (by unfold maxLen;omega) (top:=255) (by decide) hval
 simp -implicitDefEqProofs only[qm,SP,SA,SQ,sevalprocAttr,Lt,fg,zc,h1,h2]
end Go.AM.B1
namespace Go.AM.B1
open Go.AM
theorem En (A:List ba) (o:ba):(A++[o])[A.length]? =some o:=by simp
theorem yn (A:List ba) (o o':ba):(A++[o]).set A.length o'=A++[o']:=by
 apply List.ext_getElem?
 intro i
 by_cases h:i=A.length
 ·subst h;simp
 ·rw[List.getElem?_set_ne (Ne.symm h)]
  rcases Nat.lt_or_ge i A.length with h1 | h1
  ·rw[List.getElem?_append_left h1,List.getElem?_append_left h1]
  ·rw[List.getElem?_append_right h1,List.getElem?_append_right h1]
   have:i - A.length≠0:=by omega
   obtain⟨k,hk⟩:∃ k,i - A.length=k+1:=⟨i - A.length - 1,by omega⟩
   rw[hk];simp
abbrev u32 (n:Int):PV:= .int .u32 n
abbrev zw (S:PV) (x d bits len i left:Int) (ends:Bool):Tr:=
 ((((((Tr.lf.set 18 (.pv (i64 i))).set 17 (.pv (i64 len))).set 16 (.pv S)).set 9 (.pv (.bool ends))).set 8 (.pv (u32 left))).set 4 (.pv (.rp [i64 d,u32 bits] 0))).set 2 (.pv (i64 x))
def Vy (bits:Int) (i:Nat):Bool:=IntKind.u32.wrap (((BitVec.ofInt IntKind.u32.bits (bits.fdiv (2 ^ min i IntKind.u32.bits)) &&& BitVec.ofInt IntKind.u32.bits 1).toNat:Nat):Int)==1
theorem jw (bits:Int) (i:Nat):(IntKind.u32.wrap (((BitVec.ofInt IntKind.u32.bits (bits.fdiv (2 ^ min i IntKind.u32.bits)) &&& BitVec.ofInt IntKind.u32.bits 1).toNat:Nat):Int)==1)=Vy bits i:=rfl
def AW (left:Int) (i:Nat):Int:=IntKind.u32.wrap (((BitVec.ofInt IntKind.u32.bits left ||| BitVec.ofInt IntKind.u32.bits (IntKind.u32.wrap (1 * 2 ^ min i IntKind.u32.bits))).toNat:Nat):Int)
theorem DH (left:Int) (i:Nat):IntKind.u32.wrap (((BitVec.ofInt IntKind.u32.bits left ||| BitVec.ofInt IntKind.u32.bits (IntKind.u32.wrap (1 * 2 ^ min i IntKind.u32.bits))).toNat:Nat):Int)=AW left i:=rfl
section
variable (call:Wa) (A:List ba) (ss:List PV) (x bits left:Int) (d:Nat) (ends:Bool) (i len:Nat) (hi:i < len) (hl:len=ss.length) (hw:len≤maxLen) (ps:List PV) (first:Int) (hs:ss[i]? =some (.agg [.lit 1 ps,i64 first]))
include hi hl hw hs
theorem xT (hb:Vy bits i=false):
 ga (pa call Cb) (fun s=>some (tidy [2,4,8,9,16,17,18] s)) ⟨zw (.lit 2 ss) x d bits len i left ends,A⟩=
  some (.norm,⟨zw (.lit 2 ss) x d bits len (i+1:Nat) left ends,A++[.box [.pv (.lit 1 ps),.pv (i64 first)]]⟩):=by
 have e1:decide ((i:Int) < (len:Int))=true:=Fa (by omega)
 have hq:Ea (i:Int) ss.length:=by unfold Ea;omega
 have t1:((i:Int)).toNat=i:=by simp
 have t2:=Za hi hw
 have hn:((i:Int) < 0)=False:=by simp
 simp -implicitDefEqProofs only[SP,SA,SQ,sevalprocAttr,ga,Cb,e1,eq_true hq,t1,t2,hs,hn,jw,hb,wa,En,yn,tidy,Bc,zw]
theorem AT (hb:Vy bits i=true) (qs:List PV) (hp:ps[d]? =some (.lit 2 qs)) (hdl:d < ps.length) (hd:d < 4611686018427387904) (hh:sk [.lit 2 qs,i64 x]=some (.bool false)):
 ga (pa call Cb) (fun s=>some (tidy [2,4,8,9,16,17,18] s)) ⟨zw (.lit 2 ss) x d bits len i left ends,A⟩=
  some (.norm,⟨zw (.lit 2 ss) x d bits len (i+1:Nat) left ends,A++[.box [.pv (.lit 1 ps),.pv (i64 first)]]⟩):=by
 have e1:decide ((i:Int) < (len:Int))=true:=Fa (by omega)
 have hq:Ea (i:Int) ss.length:=by unfold Ea;omega
 have t1:((i:Int)).toNat=i:=by simp
 have t2:=Za hi hw
 have hn:((i:Int) < 0)=False:=by simp
 have hq2:Ea (d:Int) ps.length:=by unfold Ea;omega
 have t3:((d:Int)).toNat=d:=by simp
 simp -implicitDefEqProofs only[SP,SA,SQ,sevalprocAttr,ga,Cb,e1,eq_true hq,eq_true hq2,t1,t2,t3,hs,hn,jw,hb,hp,hh,fg,zc,wa,En,yn,tidy,Bc,zw]
theorem zV (hb:Vy bits i=true) (qs:List PV) (hp:ps[d]? =some (.lit 2 qs)) (hdl:d < ps.length) (hd:d < 4611686018427387904) (hh:sk [.lit 2 qs,i64 x]=some (.bool true)):
 ga (pa call Cb) (fun s=>some (tidy [2,4,8,9,16,17,18] s)) ⟨zw (.lit 2 ss) x d bits len i left ends,A⟩=
  some (.norm,⟨zw (.lit 2 ss) x d bits len (i+1:Nat) (AW left i) (ends||(ps.length==d+1)),A++[.box [.pv (.lit 1 ps),.pv (i64 first)]]⟩):=by
 have e1:decide ((i:Int) < (len:Int))=true:=Fa (by omega)
 have hq:Ea (i:Int) ss.length:=by unfold Ea;omega
 have t1:((i:Int)).toNat=i:=by simp
 have t2:=Za hi hw
 have hn:((i:Int) < 0)=False:=by simp
 have hq2:Ea (d:Int) ps.length:=by unfold Ea;omega
 have t3:((d:Int)).toNat=d:=by simp
 have t4:IntKind.i64.wrap ((d:Int)+1)=((d+1:Nat):Int):=Ca (by omega)
 have t5:((ps.length:Int)==((d+1:Nat):Int))=(ps.length==d+1):=by
  rw[Bool.eq_iff_iff];simp;omega
 cases ends with
 |true=>simp -implicitDefEqProofs only[SP,SA,SQ,sevalprocAttr,ga,Cb,e1,eq_true hq,eq_true hq2,t1,t2,t3,t4,t5,hs,hn,jw,DH,hb,hp,hh,fg,zc,wa,En,yn,tidy,Bc,zw]
 |false=>simp -implicitDefEqProofs only[SP,SA,SQ,sevalprocAttr,ga,Cb,e1,eq_true hq,eq_true hq2,t1,t2,t3,t4,t5,hs,hn,jw,DH,hb,hp,hh,fg,zc,wa,En,yn,tidy,Bc,zw]
end
structure ic where
 parts:List (List (Int×Int))
 first:Int
def ve (l:List (Int×Int)):PV:= .lit 2 (Md l)
def Ae (s:ic):PV:= .agg [.lit 1 (s.parts.map ve),i64 s.first]
def FP (l:List (Int×Int)) (x:Int):Bool:=(pg x 0 (xx l)).2
def Cr (s:ic) (d:Nat) (x:Int):Bool:=
 match s.parts[d]? with
 |some l=>FP l x
 |none=>false
def Xg (x bits:Int) (d:Nat):Nat→List ic→Int×Bool→Int×Bool
 |_,[],acc=>acc
 |i,s::r,acc=>Xg x bits d (i+1) r (if Vy bits i&&Cr s d x then (AW acc.1 i,acc.2||(s.parts.length==d+1)) else acc)
theorem LG (l:List (Int×Int)):Yy (.lit 2 (Md l))=some l:=by
 have:Oa jy (Md l)=some l:=by
  induction l with
  |nil=>rfl
  |cons p l ih=>simp only[Md,List.map_cons,Oa,jy,Option.bind_some] at ih ⊢;rw[ih];rfl
 exact this
theorem JN {l:List (Int×Int)} (h:l.length * 16≤140737488355328) (x:Int):sk [ve l,i64 x]=some (.bool (FP l x)):=by
 simp only[sk,ve,LG,Option.bind_some,if_pos h];rfl
def jE (ss:List ic):List ba:=ss.map fun s=> .box [.pv (.lit 1 (s.parts.map ve)),.pv (i64 s.first)]
section
variable (call:Wa) (H:List ba) (id:Nat) (rest:List AV) (S:PV) (ss:List ic) (x bits:Int) (d:Nat)
 (hid:H[id]? =some (.box (.pv S::rest))) (hS:Ai 2 S (ss.map Ae)) (hw:ss.length≤maxLen) (hd:d < 4611686018427387904)
 (Aa:∀ i s,ss[i]? =some s→Vy bits i=true→d < s.parts.length) (hsz:∀ s∈ss,∀ l∈s.parts,l.length * 16≤140737488355328)
include hid hS hw hd Aa hsz
theorem Lp:mg call Fh [.ptr id 0,.pv (.agg [i64 d,u32 bits]),.pv (i64 x)] H=
 some (.pv (.yc [u32 (Xg x bits d 0 ss (0,false)).1,.bool (Xg x bits d 0 ss (0,false)).2]),H++jE ss):=by
 have ls:=hS.len
 simp only[List.length_map] at ls
 have key:=Xj (g:=ga (pa call Cb) (fun s=>some (tidy [2,4,8,9,16,17,18] s)))
  (fun i t=>∃ left ends,t=⟨zw S x d bits ss.length i left ends,H++jE (ss.take i)⟩∧Xg x bits d 0 ss (0,false)=Xg x bits d i (ss.drop i) (left,ends))
  (fun ex t=>ex= .exit 0∧t=⟨(zw S x d bits ss.length ss.length (Xg x bits d 0 ss (0,false)).1 (Xg x bits d 0 ss (0,false)).2).set 19 (.pv (.bool false)),H++jE ss⟩)
  qa ss.length 0 ⟨zw S x d bits ss.length (0:Nat) 0 false,H⟩ (by unfold qa;unfold maxLen at hw;omega) (by omega) ⟨0,false,by simp[jE],rfl⟩ ?_ ?_
 ·obtain⟨ex,t,h,_,rfl,rfl⟩:=key
  generalize Xg x bits d 0 ss (0,false)=r at *
  simp -implicitDefEqProofs only[SP,SA,SQ,sevalprocAttr,Fh,ls,hid,zo,tidy,Bc,zw,h]
  simp only[zw] at h
  have h':mb (ga (pa call Cb) (fun s=>some (tidy [2,4,8,9,16,17,18] s))) qa ⟨((((((Tr.lf.set 18 (.pv (i64 0))).set 17 (.pv (i64 ss.length))).set 16 (.pv S)).set 9 (.pv (.bool false))).set 8 (.pv (u32 0))).set 4 (.pv (.rp [i64 d,u32 bits] 0))).set 2 (.pv (i64 x)),H⟩=_:=h
  simp only[tidy,Bc] at h'
  rw[h']
  simp -implicitDefEqProofs only[SP,SA,SQ,sevalprocAttr,zc]
 ·rintro i hi t ⟨left,ends,rfl,hb⟩
  have hlit:=hS.lit (i:=i) (by simpa using hi)
  subst hlit
  have hg:(ss.map Ae)[i]? =some (.agg [.lit 1 (ss[i].parts.map ve),i64 ss[i].first]):=by simp[hi,Ae]
  have hdr:ss.drop i=ss[i]::ss.drop (i+1):=List.drop_eq_getElem_cons hi
  have hJ:H++jE (ss.take (i+1))=H++jE (ss.take i)++[.box [.pv (.lit 1 (ss[i].parts.map ve)),.pv (i64 ss[i].first)]]:=by
   rw[List.take_succ_eq_append_getElem hi,jE,List.map_append,List.append_assoc];rfl
  rw[hdr,Xg] at hb
  cases hbit:Vy bits i with
  |false=>
   rw[hbit] at hb
   refine .inl ⟨_,xT call _ _ x bits left d ends i ss.length hi (by simp) hw _ _ hg hbit,left,ends,by rw[hJ],hb⟩
  |true=>
   have hdl:=Aa i ss[i] (by simp[hi]) hbit
   have hp:(ss[i].parts.map ve)[d]? =some (.lit 2 (Md ss[i].parts[d])):=by simp[hdl,ve]
   have hc:=JN (hsz ss[i] (List.getElem_mem hi) ss[i].parts[d] (List.getElem_mem hdl)) x
   have hat:Cr ss[i] d x=FP ss[i].parts[d] x:=by simp[Cr,hdl]
   rw[hbit,hat,Bool.true_and] at hb
   cases hh:FP ss[i].parts[d] x with
   |false=>
    rw[hh] at hb hc
    refine .inl ⟨_,AT call _ _ x bits left d ends i ss.length hi (by simp) hw _ _ hg hbit _ hp (by simpa using hdl) hd hc,left,ends,by rw[hJ],hb⟩
   |true=>
    rw[hh] at hb hc
    refine .inl ⟨_,zV call _ _ x bits left d ends i ss.length hi (by simp) hw _ _ hg hbit _ hp (by simpa using hdl) hd hc,_,_,by rw[hJ],?_⟩
    rw[hb]
    simp
 ·rintro t ⟨left,ends,rfl,hb⟩
  rw[List.drop_length] at hb
  simp only[Xg] at hb
  refine⟨.exit 0,_,?_,rfl,rfl,rfl⟩
  rw[hb,List.take_length]
  have e1:decide ((ss.length:Int) < (ss.length:Int))=false:=Ja (by omega)
  simp -implicitDefEqProofs only[SP,SA,SQ,sevalprocAttr,ga,Cb,e1,zw]
end
end Go.AM.B1
namespace Go.AM.B1
open Go.AM
abbrev Al:=Nat×Int
def yh (a:Al):PV:= .agg [i64 a.1,u32 a.2]
def dB (l:List Al) (k:Nat):List (PV×PV):=(l.zipIdx k).map fun p=>(yh p.1,i64 p.2)
theorem eA (a:Al) (l:List Al) (k:Nat):dB (a::l) k=(yh a,i64 k)::dB l (k+1):=rfl
theorem AF (a:Al):∀ (l:List Al) (k:Nat),dB (l++[a]) k=dB l k++[(yh a,i64 (k+l.length:Nat))]
 | [],k=>by simp[dB]
 |b::l,k=>by rw[List.cons_append,eA,AF a l (k+1),eA];simp;omega
theorem EB (a b:Al):Rj (.row [1,1]) (yh a) (yh b)=some (decide (a=b)):=by
 obtain⟨a1,a2⟩:=a;obtain⟨b1,b2⟩:=b
 simp only[yh,Rj,Hh,gp,if_true,Option.bind_some,Option.map_some,Bool.and_true,Prod.mk.injEq,Bool.decide_and]
 congr 1
 rw[Bool.eq_iff_iff]
 simp
 intro _
 omega
def Wk (a:Al):List Al→Nat→Option Nat
 | [],_=>none
 |b::l,k=>if a=b then some k else Wk a l (k+1)
theorem QG (a:Al):∀ (l:List Al) (k j:Nat),Cl (.row [1,1]) (yh a) (dB l k) j=some ((Wk a l k).map fun i=>(j+(i - k),i64 i)):=by
 intro l
 induction l with
 |nil=>intro k j;rfl
 |cons b l ih=>
  intro k j
  rw[eA,Cl,EB]
  simp only[Option.bind_some,Wk]
  by_cases h:a=b
  ·simp[h]
  ·rw[if_neg h,ih]
   simp only[h,decide_false,Bool.false_eq_true,if_false,Option.some.injEq]
   cases hi:Wk a l (k+1) with
   |none=>rfl
   |some i=>
    have:k+1≤i:=by
     clear ih
     induction l generalizing k with
     |nil=>simp[Wk] at hi
     |cons c l ihl=>
      simp only[Wk] at hi
      split at hi
      ·injection hi with hi;omega
      ·have:=ihl (k+1) hi;omega
    simp only[Option.map_some,Option.some.injEq,Prod.mk.injEq,and_true]
    omega
abbrev ij (R0 R1:ba) (S:PV) (nl:Bool) (sets:List Al) (rows:ba) (n:Nat) (T:List ba):List ba:=
 R0::R1:: .map (dB sets 0):: .box [.pv S,.mp 2,.uq 4 nl 2 (sets.map yh),.own 5 n]:: .tok 2 sets.length nl::rows::T
section
variable (call:Wa) (R0 R1:ba) (S:PV) (nl:Bool) (sets:List Al) (rows:ba) (n:Nat) (T:List ba) (a:Al)
theorem CT {i:Nat} (h:Wk a sets 0=some i):
 mg call Qd [.ptr 3 0,.pv (yh a)] (ij R0 R1 S nl sets rows n T)=some (.pv (.yc [i64 i,.bool true]),ij R0 R1 S nl sets rows n T):=by
 have hf:=QG a sets 0 0
 rw[h] at hf
 simp only[Option.map_some] at hf
 have hk:(Rj (.row [1,1]) (yh a) (yh a)).isSome=true:=by rw[EB];rfl
 simp only[yh] at hf hk
 simp -implicitDefEqProofs only[SP,SA,SQ,sevalprocAttr,yh,Qd,hf,eq_true hk]
theorem RP (h:Wk a sets 0=none) (hl:sets.length=64):
 mg call Qd [.ptr 3 0,.pv (yh a)] (ij R0 R1 S nl sets rows n T)=some (.pv (.yc [i64 0,.bool false]),ij R0 R1 S nl sets rows n T):=by
 have hf:=QG a sets 0 0
 rw[h] at hf
 simp only[Option.map_none] at hf
 have hk:(Rj (.row [1,1]) (yh a) (yh a)).isSome=true:=by rw[EB];rfl
 have e1:(((sets.map yh).length:Int)==64)=true:=by simp[hl]
 simp only[yh] at hf hk
 simp -implicitDefEqProofs only[SP,SA,SQ,sevalprocAttr,Qd,yh,hf,eq_true hk,e1]
theorem dM (h:Wk a sets 0=none) (hl:sets.length < 64):
 mg call Qd [.ptr 3 0,.pv (yh a)] (ij R0 R1 S nl sets rows n T)=some (.pv (.yc [i64 sets.length,.bool true]),ij R0 R1 S false (sets++[a]) rows n T):=by
 have hf:=QG a sets 0 0
 rw[h] at hf
 simp only[Option.map_none] at hf
 have hk:(Rj (.row [1,1]) (yh a) (yh a)).isSome=true:=by rw[EB];rfl
 have e1:((sets.length:Int)==64)=false:=Oh (by omega)
 have hp:=AF a sets 0
 rw[Nat.zero_add] at hp
 have q1:qb (sets.length+1) 16:=by unfold qb;omega
 have hlen:(sets.map yh).length=sets.length:=by simp
 have hlen2:(sets++[a]).length=sets.length+1:=by simp
 have hmap:(sets++[a]).map yh=sets.map yh++[yh a]:=by simp
 unfold ij
 rw[hp,hlen2,hmap]
 simp only[yh] at hf hk ⊢
 simp -implicitDefEqProofs only[SP,SA,SQ,sevalprocAttr,Qd,hf,eq_true hk,e1,hlen,eq_true q1,Nh,AV.CB,AV.Kn]
end
end Go.AM.B1
namespace Go.AM.B1
open Go.AM
theorem Xl (n:Nat) (cs:List AV):oa n (.box cs)=(Oa (AV.cut n deep) cs).map .box:=rfl
theorem bm (n:Nat) (es:List (PV×PV)):oa n (.map es)=some (.map es):=rfl
theorem tr (n sz:Nat) (ag:Bool) (cs:List AV) (fl:Nat) (nl:Bool):oa n (.seq sz ag cs fl nl)=if cs.all (AV.Qe n deep)=true then some (.seq sz ag cs fl nl) else none:=rfl
theorem jm (n sz m:Nat) (nl:Bool):oa n (.tok sz m nl)=some (.tok sz m nl):=rfl
def sg (ss:List ic) (a:Al) (x:Int) (sets:List Al):Option (List Al×Int):=
 if (Xg x a.2 a.1 0 ss (0,false)).1=0 then some (sets,-2)
 else if (Xg x a.2 a.1 0 ss (0,false)).2=true then some (sets,-1)
 else match Wk (a.1+1,(Xg x a.2 a.1 0 ss (0,false)).1) sets 0 with
  |some k=>some (sets,(k:Int))
  |none=>if sets.length < 64 then some (sets++[(a.1+1,(Xg x a.2 a.1 0 ss (0,false)).1)],(sets.length:Int)) else none
inductive Et (k:Nat) (v:AV) (o:ba):Option (Ex×St)→Prop
 |mk (s:St):s.env.get k=v→s.H[0]? =some o→Et k v o (some (.ret,s))
theorem oC {k:Nat} {v:AV} {o:ba} {s:St}:Et k v o (some (.ret,s))=(s.env.get k=v∧s.H[0]? =some o):=
 propext ⟨fun h=>by cases h with | mk _ h h'=>exact⟨h,h'⟩,fun h=> .mk s h.1 h.2⟩
theorem Iq {k:Nat} {v:AV} {o:ba} {r:Option (Ex×St)} (h:Et k v o r):∃ t,r=some (.ret,t)∧t.env.get k=v∧t.H[0]? =some o:=by
 cases h with | mk s h h'=>exact⟨s,rfl,h,h'⟩
def Ha (l:List Int):List AV:=l.map fun n=> .pv (i64 n)
theorem Qi (l:List Int) (x:Nat) (v:Int):(Ha l).set x (.pv (i64 v))=Ha (l.set x v):=by simp[Ha,List.map_set]
theorem fb (l:List Int):(Ha l).length=l.length:=by simp[Ha]
theorem Pp (n d:Nat) (l:List Int):Oa (AV.cut n d) (Ha l)=some (Ha l):=by
 induction l with
 |nil=>rfl
 |cons a l ih=>simp only[Ha,List.map_cons,Oa,Ga,Option.bind_some] at ih ⊢;rw[ih];rfl
abbrev El (i x:Int):Tr:=(((Tr.lf.set 30 (.pv (i64 x))).set 4 (.ptr 6 0)).set 3 (.pv (i64 i))).set 0 (.ptr 3 0)
section
variable (R0 R1:ba) (S:PV) (nl:Bool) (sets:List Al) (rows:ba) (n:Nat) (row:List Int) (ss:List ic) (i x:Nat) (a:Al)
 (h0:oa 7 R0=some R0) (h1:oa 7 R1=some R1) (hr:oa 7 rows=some rows) (hrow:row.length=256) (hx:x < 256)
 (hi:i < sets.length) (ha:(sets.map yh)[i]? =some (.agg [i64 a.1,u32 a.2])) (had:a.1 < 4611686018427387904)
 (hS:Ai 2 S (ss.map Ae)) (hw:ss.length≤maxLen)
 (Aa:∀ i s,ss[i]? =some s→Vy a.2 i=true→a.1 < s.parts.length) (hsz:∀ s∈ss,∀ l∈s.parts,l.length * 16≤140737488355328)
include h0 h1 hr hrow hx hi ha had hS hw Aa hsz
theorem cP (hb:(Xg x a.2 a.1 0 ss (0,false)).1=0):
 Nc (Ba Da 7) [0,3,4,30] Ia 7 ⟨El i x,ij R0 R1 S nl sets rows n [.box (Ha row)]⟩=
  some (.norm,⟨El i (x+1:Nat),ij R0 R1 S nl sets rows n [.box (Ha (row.set x (-2)))]⟩):=by
 have e1:decide ((x:Int) < 256)=true:=Fa (by omega)
 have hlen:(sets.map yh).length=sets.length:=by simp
 have hq:Ea (i:Int) sets.length:=by unfold Ea;omega
 have hq2:Ea (x:Int) 256:=by unfold Ea;omega
 have t1:((i:Int)).toNat=i:=by simp
 have t3:((x:Int)).toNat=x:=by simp
 have t2:=Za (i:=x) (n:=256) hx (by unfold maxLen;omega)
 have hbeh:=Lp (Ba Da 6) (ij R0 R1 S nl sets rows n [.box (Ha row)]) 3 _ S ss x a.2 a.1 rfl hS hw had Aa hsz
 rw[hb] at hbeh
 have hle:x+1≤(Ha row).length:=by rw[fb];omega
 have hz:(((0:Nat)+x+1)≤(Ha row).length)=True:=by simp only[eq_iff_iff,iff_true];omega
 simp only[ij,List.cons_append,List.nil_append] at hbeh
 generalize (Xg x a.2 a.1 0 ss (0,false)).2=ends at *
 simp -implicitDefEqProofs only[SP,SA,SQ,sevalprocAttr,Nc,ga,Ia,Da,e1,hlen,eq_true hq,eq_true hq2,t1,t2,t3,ha,hbeh,hz,eq_true hle,Qi,wa,na,za,Xl,bm,jm,Ga,Pp,AV.cut,zc,h0,h1,hr,El,ij]
theorem LP (hb:(Xg x a.2 a.1 0 ss (0,false)).1≠0) (hb2:(Xg x a.2 a.1 0 ss (0,false)).2=true):
 Nc (Ba Da 7) [0,3,4,30] Ia 7 ⟨El i x,ij R0 R1 S nl sets rows n [.box (Ha row)]⟩=
  some (.norm,⟨El i (x+1:Nat),ij R0 R1 S nl sets rows n [.box (Ha (row.set x (-1)))]⟩):=by
 have e1:decide ((x:Int) < 256)=true:=Fa (by omega)
 have hlen:(sets.map yh).length=sets.length:=by simp
 have hq:Ea (i:Int) sets.length:=by unfold Ea;omega
 have hq2:Ea (x:Int) 256:=by unfold Ea;omega
 have t1:((i:Int)).toNat=i:=by simp
 have t3:((x:Int)).toNat=x:=by simp
 have t2:=Za (i:=x) (n:=256) hx (by unfold maxLen;omega)
 have hbeh:=Lp (Ba Da 6) (ij R0 R1 S nl sets rows n [.box (Ha row)]) 3 _ S ss x a.2 a.1 rfl hS hw had Aa hsz
 rw[hb2] at hbeh
 have hle:x+1≤(Ha row).length:=by rw[fb];omega
 have hz:(((0:Nat)+x+1)≤(Ha row).length)=True:=by simp only[eq_iff_iff,iff_true];omega
 simp only[ij,List.cons_append,List.nil_append] at hbeh
 have e4:=Oh hb
 generalize (Xg x a.2 a.1 0 ss (0,false)).1=left at *
 simp -implicitDefEqProofs only[SP,SA,SQ,sevalprocAttr,Nc,ga,Ia,Da,e1,hlen,eq_true hq,eq_true hq2,t1,t2,t3,ha,hbeh,e4,hz,eq_true hle,Qi,wa,na,za,Xl,bm,jm,Ga,Pp,AV.cut,zc,h0,h1,hr,El,ij]
theorem DR (hb:(Xg x a.2 a.1 0 ss (0,false)).1≠0) (hb2:(Xg x a.2 a.1 0 ss (0,false)).2=false) {k:Nat} (hk:Wk (a.1+1,(Xg x a.2 a.1 0 ss (0,false)).1) sets 0=some k):
 Nc (Ba Da 7) [0,3,4,30] Ia 7 ⟨El i x,ij R0 R1 S nl sets rows n [.box (Ha row)]⟩=
  some (.norm,⟨El i (x+1:Nat),ij R0 R1 S nl sets rows n [.box (Ha (row.set x k))]⟩):=by
 have e1:decide ((x:Int) < 256)=true:=Fa (by omega)
 have hlen:(sets.map yh).length=sets.length:=by simp
 have hq:Ea (i:Int) sets.length:=by unfold Ea;omega
 have hq2:Ea (x:Int) 256:=by unfold Ea;omega
 have t1:((i:Int)).toNat=i:=by simp
 have t3:((x:Int)).toNat=x:=by simp
 have t2:=Za (i:=x) (n:=256) hx (by unfold maxLen;omega)
 have hbeh:=Lp (Ba Da 6) (ij R0 R1 S nl sets rows n [.box (Ha row)]) 3 _ S ss x a.2 a.1 rfl hS hw had Aa hsz
 rw[hb2] at hbeh
 have hle:x+1≤(Ha row).length:=by rw[fb];omega
 have hz:(((0:Nat)+x+1)≤(Ha row).length)=True:=by simp only[eq_iff_iff,iff_true];omega
 simp only[ij,List.cons_append,List.nil_append] at hbeh
 have e4:=Oh hb
 have t5:IntKind.i64.wrap ((a.1:Int)+1)=((a.1+1:Nat):Int):=Ca (by omega)
 have hmet:=CT (Ba Da 6) R0 R1 S nl sets rows n (.box (Ha row)::jE ss) (a.1+1,(Xg x a.2 a.1 0 ss (0,false)).1) hk
 simp only[ij,yh] at hmet
 generalize (Xg x a.2 a.1 0 ss (0,false)).1=left at *
 simp -implicitDefEqProofs only[SP,SA,SQ,sevalprocAttr,Nc,ga,Ia,Da,e1,hlen,eq_true hq,eq_true hq2,t1,t2,t3,ha,hbeh,hmet,t5,e4,hz,eq_true hle,Qi,wa,na,za,Xl,bm,jm,Ga,Pp,AV.cut,zc,h0,h1,hr,El,ij]
theorem ER (hb:(Xg x a.2 a.1 0 ss (0,false)).1≠0) (hb2:(Xg x a.2 a.1 0 ss (0,false)).2=false) (hk:Wk (a.1+1,(Xg x a.2 a.1 0 ss (0,false)).1) sets 0=none) (hl:sets.length < 64):
 Nc (Ba Da 7) [0,3,4,30] Ia 7 ⟨El i x,ij R0 R1 S nl sets rows n [.box (Ha row)]⟩=
  some (.norm,⟨El i (x+1:Nat),ij R0 R1 S false (sets++[(a.1+1,(Xg x a.2 a.1 0 ss (0,false)).1)]) rows n [.box (Ha (row.set x (sets.length:Int)))]⟩):=by
 have e1:decide ((x:Int) < 256)=true:=Fa (by omega)
 have hlen:(sets.map yh).length=sets.length:=by simp
 have hq:Ea (i:Int) sets.length:=by unfold Ea;omega
 have hq2:Ea (x:Int) 256:=by unfold Ea;omega
 have t1:((i:Int)).toNat=i:=by simp
 have t3:((x:Int)).toNat=x:=by simp
 have t2:=Za (i:=x) (n:=256) hx (by unfold maxLen;omega)
 have hbeh:=Lp (Ba Da 6) (ij R0 R1 S nl sets rows n [.box (Ha row)]) 3 _ S ss x a.2 a.1 rfl hS hw had Aa hsz
 rw[hb2] at hbeh
 have hle:x+1≤(Ha row).length:=by rw[fb];omega
 have hz:(((0:Nat)+x+1)≤(Ha row).length)=True:=by simp only[eq_iff_iff,iff_true];omega
 simp only[ij,List.cons_append,List.nil_append] at hbeh
 have e4:=Oh hb
 have t5:IntKind.i64.wrap ((a.1:Int)+1)=((a.1+1:Nat):Int):=Ca (by omega)
 have hmet:=dM (Ba Da 6) R0 R1 S nl sets rows n (.box (Ha row)::jE ss) (a.1+1,(Xg x a.2 a.1 0 ss (0,false)).1) hk hl
 simp only[ij,yh] at hmet ⊢
 generalize (Xg x a.2 a.1 0 ss (0,false)).1=left at *
 simp -implicitDefEqProofs only[SP,SA,SQ,sevalprocAttr,Nc,ga,Ia,Da,e1,hlen,eq_true hq,eq_true hq2,t1,t2,t3,ha,hbeh,hmet,t5,e4,hz,eq_true hle,Qi,wa,na,za,Xl,bm,jm,Ga,Pp,AV.cut,zc,h0,h1,hr,El,ij]
end
section
variable (R0 R1:ba) (S:PV) (nl:Bool) (sets:List Al) (rows:ba) (n:Nat) (row:List Int) (ss:List ic) (i x:Nat) (a:Al)
 (hrow:row.length=256) (hx:x < 256)
 (hi:i < sets.length) (ha:(sets.map yh)[i]? =some (.agg [i64 a.1,u32 a.2])) (had:a.1 < 4611686018427387904)
 (hS:Ai 2 S (ss.map Ae)) (hw:ss.length≤maxLen)
 (Aa:∀ i s,ss[i]? =some s→Vy a.2 i=true→a.1 < s.parts.length) (hsz:∀ s∈ss,∀ l∈s.parts,l.length * 16≤140737488355328)
include hrow hx hi ha had hS hw Aa hsz
theorem aO (hb:(Xg x a.2 a.1 0 ss (0,false)).1≠0) (hb2:(Xg x a.2 a.1 0 ss (0,false)).2=false) (hk:Wk (a.1+1,(Xg x a.2 a.1 0 ss (0,false)).1) sets 0=none) (hl:sets.length=64):
 Et 2 (.pv (.bool false)) R0 (Nc (Ba Da 7) [0,3,4,30] Ia 7 ⟨El i x,ij R0 R1 S nl sets rows n [.box (Ha row)]⟩):=by
 have e1:decide ((x:Int) < 256)=true:=Fa (by omega)
 have hlen:(sets.map yh).length=sets.length:=by simp
 have hq:Ea (i:Int) sets.length:=by unfold Ea;omega
 have hq2:Ea (x:Int) 256:=by unfold Ea;omega
 have t1:((i:Int)).toNat=i:=by simp
 have t3:((x:Int)).toNat=x:=by simp
 have t2:=Za (i:=x) (n:=256) hx (by unfold maxLen;omega)
 have hbeh:=Lp (Ba Da 6) (ij R0 R1 S nl sets rows n [.box (Ha row)]) 3 _ S ss x a.2 a.1 rfl hS hw had Aa hsz
 rw[hb2] at hbeh
 have hle:x+1≤(Ha row).length:=by rw[fb];omega
 have hz:(((0:Nat)+x+1)≤(Ha row).length)=True:=by simp only[eq_iff_iff,iff_true];omega
 simp only[ij,List.cons_append,List.nil_append] at hbeh
 have e4:=Oh hb
 have t5:IntKind.i64.wrap ((a.1:Int)+1)=((a.1+1:Nat):Int):=Ca (by omega)
 have hmet:=RP (Ba Da 6) R0 R1 S nl sets rows n (.box (Ha row)::jE ss) (a.1+1,(Xg x a.2 a.1 0 ss (0,false)).1) hk hl
 simp only[ij,yh] at hmet
 generalize (Xg x a.2 a.1 0 ss (0,false)).1=left at *
 simp -implicitDefEqProofs only[SP,SA,SQ,sevalprocAttr,Nc,ga,Ia,Da,e1,hlen,eq_true hq,eq_true hq2,t1,t2,t3,ha,hbeh,hmet,t5,e4,oC,hz,eq_true hle,Qi,wa,El,ij]
end
end Go.AM.B1
namespace Go.AM.B1
open Go.AM
def Tj (ss:List ic) (a:Al):List Nat→List Al×List Int→Option (List Al×List Int)
 | [],r=>some r
 |x::xs,r=>match sg ss a x r.1 with
  |some p=>Tj ss a xs (p.1,r.2.set x p.2)
  |none=>none
theorem As {ss:List ic} {a:Al} {x:Nat} {xs:List Nat} {r:List Al×List Int} (h:sg ss a x r.1=none):Tj ss a (x::xs) r=none:=by
 rw[Tj,h]
theorem Hs {ss:List ic} {a:Al} {x:Nat} {xs:List Nat} {r:List Al×List Int} {p:List Al×Int} (h:sg ss a x r.1=some p):Tj ss a (x::xs) r=Tj ss a xs (p.1,r.2.set x p.2):=by
 rw[Tj,h]
theorem Mp {n x:Nat} (h:x < n):(List.range n).drop x=x::(List.range n).drop (x+1):=by
 rw[List.drop_eq_getElem_cons (by simpa using h)];simp
theorem LA {ss:List ic} {a:Al} {x:Int} {sets:List Al} {r:List Al×Int} (h:sg ss a x sets=some r) (hl:sets.length≤64):r.1.length≤64∧∃ t,r.1=sets++t:=by
 unfold sg at h
 split at h
 ·injection h with h;subst h;exact⟨hl,[],by simp⟩
 ·split at h
  ·injection h with h;subst h;exact⟨hl,[],by simp⟩
  ·split at h
   ·injection h with h;subst h;exact⟨hl,[],by simp⟩
   ·split at h
    ·injection h with h;subst h;exact⟨by simp;omega,_,rfl⟩
    ·cases h
section
variable (R0 R1:ba) (S:PV) (rows:ba) (n:Nat) (ss:List ic)
 (h0:oa 7 R0=some R0) (h1:oa 7 R1=some R1) (hr:oa 7 rows=some rows)
 (hS:Ai 2 S (ss.map Ae)) (hw:ss.length≤maxLen)
 (hsz:∀ s∈ss,∀ l∈s.parts,l.length * 16≤140737488355328)
include h0 h1 hr hS hw hsz
theorem gK {nl:Bool} {sets:List Al} {row:List Int} {i x:Nat} {a:Al} (hrow:row.length=256) (hx:x < 256) (ha:sets[i]? =some a) (had:a.1 < 4611686018427387904) (hl:sets.length≤64)
 (Aa:∀ i s,ss[i]? =some s→Vy a.2 i=true→a.1 < s.parts.length):
 (∀ r,sg ss a x sets=some r→∃ nl',Nc (Ba Da 7) [0,3,4,30] Ia 7 ⟨El i x,ij R0 R1 S nl sets rows n [.box (Ha row)]⟩=
  some (.norm,⟨El i (x+1:Nat),ij R0 R1 S nl' r.1 rows n [.box (Ha (row.set x r.2))]⟩))∧
 (sg ss a x sets=none→Et 2 (.pv (.bool false)) R0 (Nc (Ba Da 7) [0,3,4,30] Ia 7 ⟨El i x,ij R0 R1 S nl sets rows n [.box (Ha row)]⟩)):=by
 have hi:i < sets.length:=(List.getElem?_eq_some_iff.1 ha).1
 have ha':(sets.map yh)[i]? =some (.agg [i64 a.1,u32 a.2]):=by rw[List.getElem?_map,ha];rfl
 by_cases hb:(Xg x a.2 a.1 0 ss (0,false)).1=0
 ·have hst:=(show sg ss a x sets=some (sets,-2) by unfold sg;rw[if_pos hb])
  rw[hst]
  exact⟨fun r e=>by injection e with e;subst e;exact⟨nl,cP R0 R1 S nl sets rows n row ss i x a h0 h1 hr hrow hx hi ha' had hS hw Aa hsz hb⟩,fun e=>by cases e⟩
 by_cases hb2:(Xg x a.2 a.1 0 ss (0,false)).2=true
 ·have hst:=(show sg ss a x sets=some (sets,-1) by unfold sg;rw[if_neg hb,if_pos hb2])
  rw[hst]
  exact⟨fun r e=>by injection e with e;subst e;exact⟨nl,LP R0 R1 S nl sets rows n row ss i x a h0 h1 hr hrow hx hi ha' had hS hw Aa hsz hb hb2⟩,fun e=>by cases e⟩
 have hb3:(Xg x a.2 a.1 0 ss (0,false)).2=false:=by simpa using hb2
 cases hk:Wk (a.1+1,(Xg x a.2 a.1 0 ss (0,false)).1) sets 0 with
 |some k=>
  have hst:=(show sg ss a x sets=some (sets,(k:Int)) by unfold sg;rw[if_neg hb,if_neg hb2,hk])
  rw[hst]
  exact⟨fun r e=>by injection e with e;subst e;exact⟨nl,DR R0 R1 S nl sets rows n row ss i x a h0 h1 hr hrow hx hi ha' had hS hw Aa hsz hb hb3 hk⟩,fun e=>by cases e⟩
 |none=>
  by_cases hlt:sets.length < 64
  ·have hst:=(show sg ss a x sets=some (sets++[(a.1+1,(Xg x a.2 a.1 0 ss (0,false)).1)],(sets.length:Int)) by unfold sg;rw[if_neg hb,if_neg hb2,hk];simp only[if_pos hlt])
   rw[hst]
   exact⟨fun r e=>by injection e with e;subst e;exact⟨false,ER R0 R1 S nl sets rows n row ss i x a h0 h1 hr hrow hx hi ha' had hS hw Aa hsz hb hb3 hk hlt⟩,fun e=>by cases e⟩
  ·have hst:=(show sg ss a x sets=none by unfold sg;rw[if_neg hb,if_neg hb2,hk];simp only[if_neg hlt])
   rw[hst]
   exact⟨fun r e=>(by cases e),fun _=>aO R0 R1 S nl sets rows n row ss i x a hrow hx hi ha' had hS hw Aa hsz hb hb3 hk (by omega)⟩
theorem XR {nl:Bool} {sets:List Al} {row:List Int} {i:Nat} {a:Al} (hrow:row.length=256) (ha:sets[i]? =some a) (had:a.1 < 4611686018427387904) (hl:sets.length≤64)
 (Aa:∀ i s,ss[i]? =some s→Vy a.2 i=true→a.1 < s.parts.length):
 (∀ r,Tj ss a (List.range 256) (sets,row)=some r→∃ nl',mb (ga (pa (Ba Da 7) Ia) (na 7 [0,3,4,30])) qa ⟨El i 0,ij R0 R1 S nl sets rows n [.box (Ha row)]⟩=
  some (.exit 2,⟨(El i 256).set 31 (.pv (.bool false)),ij R0 R1 S nl' r.1 rows n [.box (Ha r.2)]⟩)∧r.1.length≤64∧r.2.length=256∧∃ t,r.1=sets++t)∧
 (Tj ss a (List.range 256) (sets,row)=none→Et 2 (.pv (.bool false)) R0 (mb (ga (pa (Ba Da 7) Ia) (na 7 [0,3,4,30])) qa ⟨El i 0,ij R0 R1 S nl sets rows n [.box (Ha row)]⟩)):=by
 generalize hxs:List.range 256=xs
 have key:=Xj (g:=Nc (Ba Da 7) [0,3,4,30] Ia 7)
  (fun x t=>∃ nl' sets' row',t=⟨El i x,ij R0 R1 S nl' sets' rows n [.box (Ha row')]⟩∧Tj ss a xs (sets,row)=Tj ss a (xs.drop x) (sets',row')∧sets'.length≤64∧row'.length=256∧∃ t,sets'=sets++t)
  (fun ex t=>(∃ r,ex= .exit 2∧Tj ss a xs (sets,row)=some r∧∃ nl',t=⟨(El i 256).set 31 (.pv (.bool false)),ij R0 R1 S nl' r.1 rows n [.box (Ha r.2)]⟩∧r.1.length≤64∧r.2.length=256∧∃ t,r.1=sets++t)∨
   (ex= .ret∧Tj ss a xs (sets,row)=none∧t.env.get 2= .pv (.bool false)∧t.H[0]? =some R0))
  qa 256 0 ⟨El i (0:Nat),ij R0 R1 S nl sets rows n [.box (Ha row)]⟩ (by unfold qa;omega) (by omega) ⟨nl,sets,row,rfl,rfl,hl,hrow,[],by simp⟩ ?_ ?_
 ·obtain⟨ex,t,h,_,hq⟩:=key
  have h':mb (ga (pa (Ba Da 7) Ia) (na 7 [0,3,4,30])) qa ⟨El i 0,ij R0 R1 S nl sets rows n [.box (Ha row)]⟩=some (ex,t):=h
  rw[h']
  rcases hq with⟨r,rfl,hr',nl',rfl,q1,q2,q3⟩ | ⟨rfl,hr',hg,hg2⟩
  ·refine⟨fun r2 e=> ?_,fun e=> ?_⟩
   ·rw[hr'] at e;injection e with e;subst e;exact⟨nl',rfl,q1,q2,q3⟩
   ·rw[hr'] at e;cases e
  ·refine⟨fun r2 e=> ?_,fun _=> .mk _ hg hg2⟩
   rw[hr'] at e;cases e
 ·rintro x hx t ⟨nl',sets',row',rfl,hrs,hl',hrow',tl,hts⟩
  have ha':sets'[i]? =some a:=by
   rw[hts,List.getElem?_append_left (List.getElem?_eq_some_iff.1 ha).1];exact ha
  have hd:=Mp hx
  rw[hxs] at hd
  have hsr:=gK R0 R1 S rows n ss h0 h1 hr hS hw hsz (nl:=nl') hrow' hx ha' had hl' Aa
  rw[hd] at hrs
  cases hst:sg ss a x sets' with
  |none=>
   rw[As hst] at hrs
   obtain⟨t,g1,g2,g3⟩:=Iq (hsr.2 hst)
   exact .inr ⟨.ret,t,g1,rfl,.inr ⟨rfl,hrs,g2,g3⟩⟩
  |some r=>
   rw[Hs hst] at hrs
   obtain⟨nl2,g1⟩:=hsr.1 r hst
   obtain⟨k1,t2,k2⟩:=LA hst hl'
   exact .inl ⟨_,g1,nl2,r.1,row'.set x r.2,rfl,hrs,k1,by simpa using hrow',tl++t2,by rw[k2,hts,List.append_assoc]⟩
 ·rintro t ⟨nl',sets',row',rfl,hrs,hl',hrow',tl,hts⟩
  rw[List.drop_eq_nil_of_le (by rw[← hxs,List.length_range];exact Nat.le_refl _)] at hrs
  refine⟨.exit 2,_,?_,rfl,.inl ⟨(sets',row'),rfl,hrs,nl',rfl,hl',hrow',tl,hts⟩⟩
  have e1:decide (((256:Nat):Int) < 256)=false:=by decide
  simp -implicitDefEqProofs only[SP,SA,SQ,sevalprocAttr,Nc,ga,Ia,e1,El,ij]
end
end Go.AM.B1
namespace Go.AM.B1
open Go.AM
def yg (rs:List (List Int)):ba:= .seq 256 true (rs.flatMap Ha) 0 rs.isEmpty
theorem Ur (l:List Int):Ha l=(l.map i64).map .pv:=by simp[Ha]
theorem Ar (l:List Int):Ad (Ha l)=some (l.map i64):=by
 rw[Ur]
 induction l with
 |nil=>rfl
 |cons a l ih=>simp only[List.map_cons,Ad,ih,Option.map_some]
theorem NB (l:List Int):(Ha l).all AV.one=true:=by
 induction l with
 |nil=>rfl
 |cons a l ih=>simp only[Ha,List.map_cons,List.all_cons,AV.one,Bool.true_and] at ih ⊢;exact ih
theorem qV:List.map AV.pv (List.replicate 256 (PV.int .i64 0))=Ha (List.replicate 256 0):=by
 simp only[Ha,List.map_replicate]
theorem Tw {α:Type}:∀ (vs cs pre:List α),cs.length=vs.length→fa (pre++cs) pre.length vs=pre++vs
 | [],cs,pre,h=>by simp at h;subst h;rfl
 |v::vs,c::cs,pre,h=>by
  rw[fa]
  have h1:(pre++c::cs).set pre.length v=(pre++[v])++cs:=by
   rw[List.set_append_right _ _ (Nat.le_refl _)];simp
  rw[h1]
  have:=Tw vs cs (pre++[v]) (by simpa using h)
  simp only[List.length_append,List.length_cons,List.length_nil,Nat.zero_add] at this
  rw[this];simp
 |_::_,[],_,h=>by simp at h
theorem zv (n d:Nat) (rs:List (List Int)):(rs.flatMap Ha).all (AV.Qe n d)=true:=by
 rw[List.all_eq_true]
 intro v hv
 rw[List.mem_flatMap] at hv
 obtain⟨r,_,hv⟩:=hv
 simp only[Ha,List.mem_map] at hv
 obtain⟨x,_,rfl⟩:=hv
 cases d <;> rfl
theorem RC:∀ {rs:List (List Int)},(∀ r∈rs,r.length=256)→(rs.flatMap Ha).length=rs.length * 256
 | [],_=>rfl
 |r::rs,h=>by
  have:=RC (rs:=rs) (fun x hx=>h x (by simp[hx]))
  simp only[List.flatMap_cons,List.length_append,fb,h r (by simp),this,List.length_cons]
  omega
abbrev ez (i:Int):Tr:=(Tr.lf.set 3 (.pv (i64 i))).set 0 (.ptr 3 0)
section
variable (R0 R1:ba) (S:PV) (nl:Bool) (sets:List Al) (rs:List (List Int)) (ss:List ic) (i:Nat)
 (h0:oa 7 R0=some R0) (h1:oa 7 R1=some R1) (g0:oa 6 R0=some R0) (g1:oa 6 R1=some R1)
 (hi:i < sets.length) (hl:sets.length≤64) (hrl:rs.length≤64) (hrr:∀ r∈rs,r.length=256)
include h0 h1 g0 g1 hi hl hrl hrr
theorem eO (nl':Bool) (sets':List Al) (row:List Int) (hrow:row.length=256)
 (hrowL:mb (ga (pa (Ba Da 7) Ia) (na 7 [0,3,4,30])) qa ⟨El i 0,ij R0 R1 S nl sets (yg rs) rs.length [.box (Ha (List.replicate 256 0))]⟩=
  some (.exit 2,⟨(El i 256).set 31 (.pv (.bool false)),ij R0 R1 S nl' sets' (yg rs) rs.length [.box (Ha row)]⟩)):
 Nc (Ba Da 7) [0,3] wb 6 ⟨ez i,ij R0 R1 S nl sets (yg rs) rs.length []⟩=
  some (.norm,⟨ez (i+1:Nat),ij R0 R1 S nl' sets' (yg (rs++[row])) (rs.length+1) []⟩):=by
 have hlen:(sets.map yh).length=sets.length:=by simp
 have e1:decide ((i:Int) < (sets.length:Int))=true:=Fa (by omega)
 have t2:=Za (i:=i) (n:=64) (by omega) (by unfold maxLen;omega)
 have p0:((Ha row).length=256)=True:=by rw[fb,hrow];exact eq_self _
 have p1:(256≤(Ha row).length)=True:=by rw[fb,hrow];exact eq_true (Nat.le_refl _)
 have p2:List.take 256 (Ha row)=Ha row:=List.take_of_length_le (by rw[fb,hrow];exact Nat.le_refl _)
 have p3:=Ar row
 have p4:((row.map i64).length=256)=True:=by rw[List.length_map,hrow];exact eq_self _
 have p5:(256≤(Ha (List.replicate 256 0)).length)=True:=by rw[fb,List.length_replicate];exact eq_true (Nat.le_refl _)
 have p6:fa (Ha (List.replicate 256 0)) 0 (Ha row)=Ha row:=by
  have:=Tw (Ha row) (Ha (List.replicate 256 0)) [] (by rw[fb,fb,hrow,List.length_replicate])
  rw[List.nil_append,List.nil_append] at this;exact this
 have p7:=NB row
 have p8:List.take 256 (row.map i64)=row.map i64:=List.take_of_length_le (by rw[List.length_map,hrow];exact Nat.le_refl _)
 have p9:(row.map i64).map AV.pv=Ha row:=(Ur row).symm
 have q1:(rs.length * 256=(rs.flatMap Ha).length)=True:=by rw[RC hrr];exact eq_self _
 have q2:qb (rs.length+1) 2048:=by unfold qb;omega
 have q3:(rs++[row]).flatMap Ha=rs.flatMap Ha++Ha row:=by rw[List.flatMap_append,List.flatMap_cons,List.flatMap_nil,List.append_nil]
 have q4:(rs++[row]).isEmpty=false:=by cases rs <;> rfl
 have q5:=zv 7 6 rs
 have q6:=zv 6 6 (rs++[row])
 rw[q3] at q6
 simp only[El,ij,yg,Int.cast_ofNat_Int] at hrowL
 unfold ij yg
 rw[q3,q4]
 have hz2:=qV
 generalize hz:List.replicate 256 (0:Int)=zs at *
 simp -implicitDefEqProofs only[SP,SA,SQ,sevalprocAttr,-List.reduceReplicate,Nc,ga,wb,hlen,e1,Gb,na,za,Xl,bm,jm,tr,Ga,Pp,AV.cut,zc,h0,h1,g0,g1,ez,hz2,q5]
 rw[hrowL]
 simp -implicitDefEqProofs only[SP,SA,SQ,sevalprocAttr,-List.reduceReplicate,List.append_nil,hlen,t2,p0,p1,p2,p3,p4,p5,p6,p7,p8,p9,q1,eq_true q2,q5,q6,Nh,AV.CB,AV.Kn,hz2,Yi,na,za,Xl,bm,jm,tr,Ga,Pp,AV.cut,zc,h0,h1,g0,g1]
end
end Go.AM.B1
namespace Go.AM.B1
open Go.AM
theorem wrap_u32 {n:Nat} (h:n < 4294967296):IntKind.u32.wrap (n:Int)=(n:Int):=by
 have e:IntKind.u32.wrap (n:Int)=(n:Int) % 4294967296:=by
  simp[IntKind.signed,IntKind.wrap,IntKind.bits]
 rw[e];omega
theorem vR {a b:Nat} (ha:a < 4294967296) (hb:b < 4294967296):(BitVec.ofInt IntKind.u32.bits (a:Int) &&& BitVec.ofInt IntKind.u32.bits (b:Int)).toNat=a &&& b:=by
 show (BitVec.ofInt 32 (a:Int) &&& BitVec.ofInt 32 (b:Int)).toNat=_
 rw[BitVec.toNat_and,BitVec.ofInt_natCast,BitVec.ofInt_natCast,BitVec.toNat_ofNat,BitVec.toNat_ofNat,Nat.mod_eq_of_lt ha,Nat.mod_eq_of_lt hb]
theorem fT {a b:Nat} (ha:a < 4294967296) (hb:b < 4294967296):(BitVec.ofInt IntKind.u32.bits (a:Int) ||| BitVec.ofInt IntKind.u32.bits (b:Int)).toNat=a ||| b:=by
 show (BitVec.ofInt 32 (a:Int) ||| BitVec.ofInt 32 (b:Int)).toNat=_
 rw[BitVec.toNat_or,BitVec.ofInt_natCast,BitVec.ofInt_natCast,BitVec.toNat_ofNat,BitVec.toNat_ofNat,Nat.mod_eq_of_lt ha,Nat.mod_eq_of_lt hb]
theorem PH {n i:Nat} (hn:n < 4294967296) (hi:i < 32):Vy (n:Int) i=n.testBit i:=by
 have hm:min i IntKind.u32.bits=i:=by show min i 32=i;omega
 have hf:(n:Int).fdiv (2 ^ i)=((n / 2 ^ i:Nat):Int):=by
  rw[show ((2:Int) ^ i)=((2 ^ i:Nat):Int) by push_cast;rfl]
  exact (Int.ofNat_fdiv n (2 ^ i)).symm
 have hle:n / 2 ^ i < 4294967296:=Nat.lt_of_le_of_lt (Nat.div_le_self _ _) hn
 have e:(BitVec.ofInt IntKind.u32.bits ((n / 2 ^ i:Nat):Int) &&& BitVec.ofInt IntKind.u32.bits 1).toNat=n / 2 ^ i % 2:=by
  have:=vR hle (show 1 < 4294967296 by decide)
  rw[Nat.and_one_is_mod] at this
  exact this
 unfold Vy
 rw[hm,hf,e,wrap_u32 (by omega),Nat.testBit_eq_decide_div_mod_eq]
 rcases Nat.mod_two_eq_zero_or_one (n / 2 ^ i) with h | h <;> rw[h] <;> rfl
theorem cU {n i:Nat} (hn:n < 4294967296) (hi:i < 32):AW (n:Int) i=((n ||| 2 ^ i:Nat):Int):=by
 have hm:min i IntKind.u32.bits=i:=by show min i 32=i;omega
 have hp:2 ^ i < 4294967296:=by
  have:(2:Nat) ^ i < 2 ^ 32:=Nat.pow_lt_pow_right (by decide) hi
  simpa using this
 have h2:IntKind.u32.wrap (1 * 2 ^ i)=((2 ^ i:Nat):Int):=by
  rw[Int.one_mul,show ((2:Int) ^ i)=((2 ^ i:Nat):Int) by push_cast;rfl,wrap_u32 hp]
 unfold AW
 rw[hm,h2,fT hn hp,wrap_u32]
 exact Nat.or_lt_two_pow (n:=32) hn hp
def Cs (x:Int) (bits d:Nat):Nat→List ic→Nat×Bool→Nat×Bool
 |_,[],acc=>acc
 |i,s::r,acc=>Cs x bits d (i+1) r (if bits.testBit i&&Cr s d x then (acc.1 ||| 2 ^ i,acc.2||(s.parts.length==d+1)) else acc)
theorem iG {x:Int} {bits d:Nat}:∀ (ss:List ic) (i:Nat) (acc:Nat×Bool),i+ss.length≤32→acc.1 < 4294967296→(Cs x bits d i ss acc).1 < 4294967296
 | [],i,acc,_,h=>h
 |s::r,i,acc,hl,h=>by
  rw[Cs]
  refine iG r (i+1) _ (by simp only[List.length_cons] at hl;omega) ?_
  split
  ·refine Nat.or_lt_two_pow (n:=32) h ?_
   exact Nat.pow_lt_pow_right (by decide) (by simp only[List.length_cons] at hl;omega)
  ·exact h
theorem GK {x:Int} {bits d:Nat} (hb:bits < 4294967296):∀ (ss:List ic) (i:Nat) (acc:Nat×Bool),i+ss.length≤32→acc.1 < 4294967296→
 Xg x (bits:Int) d i ss ((acc.1:Int),acc.2)=(((Cs x bits d i ss acc).1:Int),(Cs x bits d i ss acc).2)
 | [],i,acc,_,h=>rfl
 |s::r,i,acc,hl,h=>by
  have hi:i < 32:=by simp only[List.length_cons] at hl;omega
  rw[Xg,Cs,PH hb hi,cU h hi]
  have h2:(acc.1 ||| 2 ^ i) < 4294967296:=Nat.or_lt_two_pow (n:=32) h (Nat.pow_lt_pow_right (by decide) hi)
  have ih:=GK (x:=x) (d:=d) hb r (i+1) (if bits.testBit i&&Cr s d x then (acc.1 ||| 2 ^ i,acc.2||(s.parts.length==d+1)) else acc)
   (by simp only[List.length_cons] at hl;omega) (by split;exact h2;exact h)
  rw[← ih]
  cases bits.testBit i&&Cr s d x <;> rfl
theorem bA {x:Int} {bits d:Nat}:∀ (ss:List ic) (i:Nat) (acc:Nat×Bool) (j:Nat),
 (Cs x bits d i ss acc).1.testBit j=(acc.1.testBit j||(decide (i≤j)&&(match ss[j - i]? with | some s=>bits.testBit j&&Cr s d x | none=>false)))
 | [],i,acc,j=>by simp[Cs]
 |s::r,i,acc,j=>by
  rw[Cs,bA r (i+1)]
  by_cases hij:i=j
  ·subst hij
   simp only[Nat.sub_self,List.getElem?_cons_zero,Nat.le_refl,decide_true,Bool.true_and]
   have:decide (i+1≤i)=false:=by simp
   rw[this,Bool.false_and,Bool.or_false]
   cases h:(bits.testBit i&&Cr s d x) with
   |true=>simp[Nat.testBit_or,Nat.testBit_two_pow_self]
   |false=>simp
  ·have e1:(if (bits.testBit i&&Cr s d x)=true then (acc.1 ||| 2 ^ i,acc.2||s.parts.length==d+1) else acc).1.testBit j=acc.1.testBit j:=by
    split
    ·simp only[Nat.testBit_or,Nat.testBit_two_pow_of_ne hij,Bool.or_false]
    ·rfl
   rw[e1]
   by_cases hlt:i+1≤j
   ·have e2:j - i=(j - (i+1))+1:=by omega
    have e3:decide (i≤j)=decide (i+1≤j):=by simp;omega
    rw[e2,e3,List.getElem?_cons_succ]
   ·have e3:decide (i≤j)=false:=by simp;omega
    have e4:decide (i+1≤j)=false:=by simp;omega
    rw[e3,e4];rfl
theorem iA {x:Int} {bits d:Nat}:∀ (ss:List ic) (i:Nat) (acc:Nat×Bool),
 (Cs x bits d i ss acc).2=(acc.2||(ss.zipIdx i).any fun p=>bits.testBit p.2&&Cr p.1 d x&&(p.1.parts.length==d+1))
 | [],i,acc=>by simp[Cs]
 |s::r,i,acc=>by
  rw[Cs,iA r (i+1),List.zipIdx_cons,List.any_cons]
  cases h:(bits.testBit i&&Cr s d x) with
  |true=>simp[Bool.or_assoc]
  |false=>simp
end Go.AM.B1
namespace Go.AM.B1
open Go.AM
def CH (ss:List ic) (k:Nat) (a:Al):Prop:=
 a.1≤k∧∃ b:Nat,a.2=(b:Int)∧b < 4294967296∧∀ i s,ss[i]? =some s→b.testBit i=true→a.1 < s.parts.length
def Il (ss:List ic) (sets:List Al):Prop:=sets.length≤64∧∀ k a,sets[k]? =some a→CH ss k a
theorem CH.Aa {ss:List ic} {k:Nat} {a:Al} (h:CH ss k a) (hl:ss.length≤32):∀ i s,ss[i]? =some s→Vy a.2 i=true→a.1 < s.parts.length:=by
 obtain⟨_,b,e,hb,h⟩:=h
 intro i s hs ht
 have hi:i < 32:=by have:=(List.getElem?_eq_some_iff.1 hs).1;omega
 rw[e,PH hb hi] at ht
 exact h i s hs ht
theorem WV {ss:List ic} {k:Nat} {a:Al} {x:Int} (h:CH ss k a) (hl:ss.length≤32) (hf:(Xg x a.2 a.1 0 ss (0,false)).2=false):
 CH ss (k+1) (a.1+1,(Xg x a.2 a.1 0 ss (0,false)).1):=by
 obtain⟨hk,b,e,hb,h⟩:=h
 have hN:Xg x (b:Int) a.1 0 ss (0,false)=(((Cs x b a.1 0 ss (0,false)).1:Int),(Cs x b a.1 0 ss (0,false)).2):=GK (x:=x) (d:=a.1) hb ss 0 (0,false) (by omega) (by decide)
 rw[e,hN] at hf
 rw[e,hN]
 have hlt:=iG (x:=x) (bits:=b) (d:=a.1) ss 0 (0,false) (by omega) (by decide)
 refine⟨Nat.succ_le_succ hk,_,rfl,hlt,?_⟩
 intro i s hs ht
 rw[bA] at ht
 simp only[Nat.zero_testBit,Nat.zero_le,decide_true,Bool.true_and,Bool.false_or,Nat.sub_zero,hs] at ht
 have hd:=h i s hs (by revert ht;cases b.testBit i <;> simp)
 have hf':(Cs x b a.1 0 ss (0,false)).2=false:=hf
 rw[iA,Bool.false_or,List.any_eq_false] at hf'
 have:=hf' (s,i) (by rw[List.mk_mem_zipIdx_iff_getElem?];exact hs)
 show a.1+1 < s.parts.length
 simp only[ht,Bool.true_and] at this
 have h2:¬s.parts.length=a.1+1:=by simpa using this
 omega
theorem TD {ss:List ic} {a:Al} {x:Int} {sets:List Al} {r:List Al×Int} {k:Nat} (hs:Il ss sets) (ha:sets[k]? =some a) (hl:ss.length≤32) (h:sg ss a x sets=some r):
 Il ss r.1∧∃ t,r.1=sets++t:=by
 have hk:=hs.2 k a ha
 unfold sg at h
 split at h
 ·injection h with h;subst h;exact⟨hs,[],by simp⟩
 ·split at h
  ·injection h with h;subst h;exact⟨hs,[],by simp⟩
  ·next hf=>
   split at h
   ·injection h with h;subst h;exact⟨hs,[],by simp⟩
   ·split at h
    ·next hlt=>
     injection h with h;subst h
     refine⟨⟨by simp;omega,?_⟩,_,rfl⟩
     intro j b hb
     rcases Nat.lt_or_ge j sets.length with h1 | h1
     ·rw[List.getElem?_append_left h1] at hb;exact hs.2 j b hb
     ·rw[List.getElem?_append_right h1] at hb
      cases hj:j - sets.length with
      |succ n=>rw[hj] at hb;simp at hb
      |zero=>
       rw[hj] at hb
       simp only[List.getElem?_cons_zero,Option.some.injEq] at hb
       subst hb
       have hkl:=(List.getElem?_eq_some_iff.1 ha).1
       obtain⟨g1,g2⟩:=WV hk hl (by simpa using hf)
       exact⟨Nat.le_trans g1 (by omega),g2⟩
    ·cases h
theorem bu {ss:List ic} {a:Al} {k:Nat} (hl:ss.length≤32):∀ (xs:List Nat) (r r':List Al×List Int),Il ss r.1→r.1[k]? =some a→Tj ss a xs r=some r'→
 Il ss r'.1∧(∃ t,r'.1=r.1++t)∧r'.2.length=r.2.length
 | [],r,r',h,_,e=>by injection e with e;subst e;exact⟨h,⟨[],by simp⟩,rfl⟩
 |x::xs,r,r',h,ha,e=>by
  cases hst:sg ss a x r.1 with
  |none=>rw[As hst] at e;cases e
  |some p=>
   rw[Hs hst] at e
   obtain⟨g1,t,g2⟩:=TD h ha hl hst
   obtain⟨k1,⟨t',k2⟩,k3⟩:=bu hl xs (p.1,r.2.set x p.2) r' g1 (by rw[g2,List.getElem?_append_left (List.getElem?_eq_some_iff.1 ha).1];exact ha) e
   exact⟨k1,⟨t++t',by rw[k2,g2,List.append_assoc]⟩,by rw[k3];simp⟩
def eb:List Int:=List.replicate 256 0
theorem Js:eb.length=256:=List.length_replicate
def og (ss:List ic):Nat→List Al×List (List Int)→Option (List Al×List (List Int))
 |0,r=>some r
 |k+1,r=>match r.1[r.2.length]? with
  |none=>some r
  |some a=>match Tj ss a (List.range 256) (r.1,eb) with
   |none=>none
   |some p=>og ss k (p.1,r.2++[p.2])
theorem Xr {ss:List ic} {k:Nat} {r:List Al×List (List Int)} (h:r.1[r.2.length]? =none):og ss k r=some r:=by
 cases k with
 |zero=>rfl
 |succ k=>rw[og,h]
theorem vt {ss:List ic} {k:Nat} {r:List Al×List (List Int)} {a:Al} (h:r.1[r.2.length]? =some a) (h2:Tj ss a (List.range 256) (r.1,eb)=none):og ss (k+1) r=none:=by
 rw[og,h];simp only[h2]
theorem iu {ss:List ic} {k:Nat} {r:List Al×List (List Int)} {a:Al} {p:List Al×List Int} (h:r.1[r.2.length]? =some a) (h2:Tj ss a (List.range 256) (r.1,eb)=some p):og ss (k+1) r=og ss k (p.1,r.2++[p.2]):=by
 rw[og,h];simp only[h2]
section
variable (R0 R1:ba) (S:PV) (nl:Bool) (sets:List Al) (rs:List (List Int)) (ss:List ic) (i:Nat)
theorem IQ (h0:oa 7 R0=some R0) (h1:oa 7 R1=some R1) (hi:i < sets.length) (hl:sets.length≤64)
 (hrowL:Et 2 (.pv (.bool false)) R0 (mb (ga (pa (Ba Da 7) Ia) (na 7 [0,3,4,30])) qa ⟨El i 0,ij R0 R1 S nl sets (yg rs) rs.length [.box (Ha (List.replicate 256 0))]⟩)):
 Et 2 (.pv (.bool false)) R0 (Nc (Ba Da 7) [0,3] wb 6 ⟨ez i,ij R0 R1 S nl sets (yg rs) rs.length []⟩):=by
 have hlen:(sets.map yh).length=sets.length:=by simp
 have e1:decide ((i:Int) < (sets.length:Int))=true:=Fa (by omega)
 have q5:=zv 7 6 rs
 obtain⟨t,g1,g2,g3⟩:=Iq hrowL
 simp only[El,ij,yg,Int.cast_ofNat_Int] at g1
 unfold ij yg
 have hz2:=qV
 generalize hz:List.replicate 256 (0:Int)=zs at *
 simp -implicitDefEqProofs only[SP,SA,SQ,sevalprocAttr,-List.reduceReplicate,Nc,ga,wb,hlen,e1,Gb,na,za,Xl,bm,jm,tr,Ga,Pp,AV.cut,zc,h0,h1,ez,hz2,q5]
 rw[g1]
 simp -implicitDefEqProofs only[SP,SA,SQ,sevalprocAttr,-List.reduceReplicate,oC,g2,g3]
theorem yI (hi:i=sets.length):
 Nc (Ba Da 7) [0,3] wb 6 ⟨ez i,ij R0 R1 S nl sets (yg rs) rs.length []⟩=
  some (.exit 0,⟨(((((((ez i).set 21 (.pv (i64 i))).set 22 (.ptr 3 0)).set 23 (.ptr 3 0)).set 24 (.ptr 3 2)).set 25 (.uq 4 nl 2 (sets.map yh))).set 26 (.pv (i64 sets.length))).set 27 (.pv (.bool false)),ij R0 R1 S nl sets (yg rs) rs.length []⟩):=by
 have hlen:(sets.map yh).length=sets.length:=by simp
 have e1:decide ((i:Int) < (sets.length:Int))=false:=Ja (by omega)
 simp -implicitDefEqProofs only[SP,SA,SQ,sevalprocAttr,-List.reduceReplicate,Nc,ga,wb,hlen,e1,ez,ij]
theorem qP (n:Nat):oa n (yg rs)=some (yg rs):=by
 have:(rs.flatMap Ha).all (AV.Qe n deep)=true:=zv n deep rs
 unfold yg
 rw[tr,if_pos this]
theorem nP (h0:oa 7 R0=some R0) (h1:oa 7 R1=some R1) (g0:oa 6 R0=some R0) (g1:oa 6 R1=some R1)
 (hS:Ai 2 S (ss.map Ae)) (hw:ss.length≤32) (hsz:∀ s∈ss,∀ l∈s.parts,l.length * 16≤140737488355328) (Aa:Il ss sets) (h1s:sets.length≤1):
 (∀ r,og ss 64 (sets,[])=some r→∃ E nl',mb (ga (pa (Ba Da 7) wb) (na 6 [0,3])) qa ⟨ez 0,ij R0 R1 S nl sets (yg []) 0 []⟩=
  some (.exit 0,⟨E,ij R0 R1 S nl' r.1 (yg r.2) r.2.length []⟩)∧Il ss r.1∧r.2.length=r.1.length∧∀ r'∈r.2,r'.length=256)∧
 (og ss 64 (sets,[])=none→Et 2 (.pv (.bool false)) R0 (mb (ga (pa (Ba Da 7) wb) (na 6 [0,3])) qa ⟨ez 0,ij R0 R1 S nl sets (yg []) 0 []⟩)):=by
 have key:=Xj (g:=Nc (Ba Da 7) [0,3] wb 6)
  (fun i t=>∃ nl' sets' rs',t=⟨ez i,ij R0 R1 S nl' sets' (yg rs') rs'.length []⟩∧og ss 64 (sets,[])=og ss (64 - i) (sets',rs')∧Il ss sets'∧rs'.length=i∧i≤sets'.length∧∀ r∈rs',r.length=256)
  (fun ex t=>(∃ r,ex= .exit 0∧og ss 64 (sets,[])=some r∧∃ E nl',t=⟨E,ij R0 R1 S nl' r.1 (yg r.2) r.2.length []⟩∧Il ss r.1∧r.2.length=r.1.length∧∀ r'∈r.2,r'.length=256)∨
   (ex= .ret∧og ss 64 (sets,[])=none∧t.env.get 2= .pv (.bool false)∧t.H[0]? =some R0))
  qa 64 0 ⟨ez (0:Nat),ij R0 R1 S nl sets (yg []) 0 []⟩ (by unfold qa;omega) (by omega) ⟨nl,sets,[],rfl,rfl,Aa,rfl,by omega,by simp⟩ ?_ ?_
 ·obtain⟨ex,t,h,_,hq⟩:=key
  have h':mb (ga (pa (Ba Da 7) wb) (na 6 [0,3])) qa ⟨ez 0,ij R0 R1 S nl sets (yg []) 0 []⟩=some (ex,t):=h
  rw[h']
  rcases hq with⟨r,rfl,hr',E,nl',rfl,q1,q2,q3⟩ | ⟨rfl,hr',hg,hg2⟩
  ·refine⟨fun r2 e=> ?_,fun e=> ?_⟩
   ·rw[hr'] at e;injection e with e;subst e;exact⟨E,nl',rfl,q1,q2,q3⟩
   ·rw[hr'] at e;cases e
  ·refine⟨fun r2 e=> ?_,fun _=> .mk _ hg hg2⟩
   rw[hr'] at e;cases e
 ·rintro i hi t ⟨nl',sets',rs',rfl,hws,hok',hrl,hil,hrr⟩
  by_cases hlt:i < sets'.length
  ·obtain⟨a,ha⟩:∃ a,sets'[i]? =some a:=⟨sets'[i],by simp[hlt]⟩
   have hsa:=hok'.2 i a ha
   have hget:sets'[rs'.length]? =some a:=by rw[hrl];exact ha
   have hrow:=XR R0 R1 S (yg rs') rs'.length ss h0 h1 (qP rs' 7) hS (by unfold maxLen;omega) hsz (nl:=nl') Js ha (by have:=hsa.1;omega) hok'.1 (hsa.Aa hw)
   have e64:64 - i=(64 - (i+1))+1:=by omega
   cases hr:Tj ss a (List.range 256) (sets',eb) with
   |none=>
    have hst:=IQ R0 R1 S nl' sets' rs' i h0 h1 hlt hok'.1 (hrow.2 hr)
    obtain⟨t,k1,k2,k3⟩:=Iq hst
    rw[e64,vt (r:=(sets',rs')) hget hr] at hws
    exact .inr ⟨.ret,t,k1,rfl,.inr ⟨rfl,hws,k2,k3⟩⟩
   |some p=>
    obtain⟨nl2,k1,k2,k3,k4⟩:=hrow.1 p hr
    have hro:=bu hw _ _ _ hok' ha hr
    rw[e64,iu (r:=(sets',rs')) hget hr] at hws
    have hsr:=eO R0 R1 S nl' sets' rs' i h0 h1 g0 g1 hlt hok'.1 (by have:=hok'.1;omega) hrr nl2 p.1 p.2 k3 k1
    refine .inl ⟨_,hsr,nl2,p.1,rs'++[p.2],by simp,hws,hro.1,by simp[hrl],?_,?_⟩
    ·obtain⟨t,ht⟩:=k4
     rw[ht];simp;omega
    ·intro r hr
     rcases List.mem_append.1 hr with h | h
     ·exact hrr r h
     ·simp at h;subst h;exact k3
  ·have hie:i=sets'.length:=by omega
   rw[Xr (r:=(sets',rs')) (by show sets'[rs'.length]? =none;rw[hrl,hie];simp)] at hws
   exact .inr ⟨.exit 0,_,yI R0 R1 S nl' sets' rs' i hie,rfl,.inl ⟨(sets',rs'),rfl,hws,_,nl',rfl,hok',by show rs'.length=sets'.length;omega,hrr⟩⟩
 ·rintro t ⟨nl',sets',rs',rfl,hws,hok',hrl,hil,hrr⟩
  have hie:64=sets'.length:=by have:=hok'.1;omega
  rw[Xr (r:=(sets',rs')) (by show sets'[rs'.length]? =none;rw[hrl,hie];simp)] at hws
  exact⟨.exit 0,_,yI R0 R1 S nl' sets' rs' 64 hie,rfl,.inl ⟨(sets',rs'),rfl,hws,_,nl',rfl,hok',by show rs'.length=sets'.length;omega,hrr⟩⟩
end
end Go.AM.B1
namespace Go.AM.B1
open Go.AM
abbrev Dh (R0 R1:ba) (S:PV) (nl nr:Bool) (fr:Nat) (sets:List Al) (C:List Int) (n:Nat) (T:List ba):List ba:=
 R0::R1:: .map (dB sets 0):: .box [.pv S,.mp 2,.uq 4 nl 2 (sets.map yh),.own 5 n]:: .tok 2 sets.length nl:: .seq 256 true (Ha C) fr nr::T
abbrev Kh (row:List Int):PV:= .agg (row.map i64)
abbrev az (n:Nat) (row:List Int) (i x:Int):Tr:=
 (((((Tr.lf.set 34 (.pv (i64 x))).set 33 (.pv (Kh row))).set 5 (.pv (i64 i))).set 4 (.mp 7)).set 3 (.own 6 n)).set 0 (.ptr 3 0)
section
variable (call:Wa) (R0 R1:ba) (S:PV) (nl nr nk:Bool) (fr fk:Nat) (sets:List Al) (C:List Int) (n:Nat) (tc:List Int) (M:ba) (row:List Int) (i x:Nat) (to:Int)
theorem FL (hx:x < 256) (hto:row[x]? =some to) (h:to < 0):ga (pa call pc) (fun s=>some (tidy [0,3,4,5,33,34] s)) ⟨az n row i x,Dh R0 R1 S nl nr fr sets C n [.seq 1 false (Ha tc) fk nk,M]⟩=
 some (.norm,⟨az n row i (x+1:Nat),Dh R0 R1 S nl nr fr sets C n [.seq 1 false (Ha tc) fk nk,M]⟩):=by
 have e1:decide ((x:Int) < 256)=true:=Fa (by omega)
 have e2:decide (to≥0)=false:=Ja (by omega)
 have hq:Ea (x:Int) 256:=by unfold Ea;omega
 have t1:((x:Int)).toNat=x:=by simp
 have t2:=Za (i:=x) (n:=256) hx (by unfold maxLen;omega)
 have ht:(row.map i64)[x]? =some (i64 to):=by rw[List.getElem?_map,hto];rfl
 simp -implicitDefEqProofs only[SP,SA,SQ,sevalprocAttr,-List.reduceReplicate,ga,pc,e1,e2,eq_true hq,t1,t2,ht,gl,wa,tidy,Bc,az,Dh]
theorem TO (hC:C.length=n * 256) (hk:tc.length=n) (hfr:fr≤n * 256) (hfk:fk≤n) (hi:i < n) (hx:x < 256) (hto:row[x]? =some to) (h:0≤to) {v:Int} (hv:tc[to.toNat]? =some v):ga (pa call pc) (fun s=>some (tidy [0,3,4,5,33,34] s)) ⟨az n row i x,Dh R0 R1 S nl nr fr sets C n [.seq 1 false (Ha tc) fk nk,M]⟩=
 some (.norm,⟨az n row i (x+1:Nat),Dh R0 R1 S nl nr (n * 256) sets (C.set (i * 256+x) v) n [.seq 1 false (Ha tc) fk nk,M]⟩):=by
 have e1:decide ((x:Int) < 256)=true:=Fa (by omega)
 have e2:decide (to≥0)=true:=Fa (by omega)
 have hq:Ea (x:Int) 256:=by unfold Ea;omega
 have t1:((x:Int)).toNat=x:=by simp
 have t3:((i:Int)).toNat=i:=by simp
 have t2:=Za (i:=x) (n:=256) hx (by unfold maxLen;omega)
 have ht:(row.map i64)[x]? =some (i64 to):=by rw[List.getElem?_map,hto];rfl
 have hv':(Ha tc)[to.toNat]? =some (.pv (i64 v)):=by rw[Ha,List.getElem?_map,hv];rfl
 have hvl:=(List.getElem?_eq_some_iff.1 hv).1
 have hq2:Ea to n:=by unfold Ea;omega
 have hq3:Ea (i:Int) n:=by unfold Ea;omega
 have w1:vh 1 n fk (Ha tc).length:=by rw[fb];unfold vh;omega
 have w2:vh 256 n fr (Ha C).length:=by rw[fb];unfold vh;omega
 have w3:((Ha tc).length=n)=True:=by rw[fb];exact eq_true hk
 have w5:(i * 256+x+1≤n * 256)=True:=eq_true (by omega)
 have w4:((Ha C).length=n * 256)=True:=by rw[fb];exact eq_true hC
 simp -implicitDefEqProofs only[SP,SA,SQ,sevalprocAttr,-List.reduceReplicate,ga,pc,e1,e2,eq_true hq,eq_true hq2,eq_true hq3,eq_true w1,eq_true w2,w3,w4,w5,t1,t2,t3,ht,hv',gl,wa,Qi,tidy,Bc,az,Dh]
def Dd (tc row:List Int) (i:Nat):List Nat→List Int→List Int
 | [],C=>C
 |x::xs,C=>Dd tc row i xs (match row[x]? with
  |some to=>if 0≤to then C.set (i * 256+x) (tc.getD to.toNat 0) else C
  |none=>C)
theorem xl (tc row:List Int) (i:Nat):∀ (xs:List Nat) (C:List Int),(Dd tc row i xs C).length=C.length
 | [],C=>rfl
 |x::xs,C=>by
  rw[Dd,xl tc row i xs]
  split
  ·split <;> simp
  ·rfl
theorem nI (hC:C.length=n * 256) (hk:tc.length=n) (hfr:fr=0∨fr=n * 256) (hfk:fk≤n) (hi:i < n) (hrow:row.length=256) (hto:∀ to∈row,to < n):
 ∃ fr',(fr'=0∨fr'=n * 256)∧mb (ga (pa call pc) (fun s=>some (tidy [0,3,4,5,33,34] s))) qa ⟨az n row i 0,Dh R0 R1 S nl nr fr sets C n [.seq 1 false (Ha tc) fk nk,M]⟩=
  some (.exit 2,⟨(az n row i 256).set 35 (.pv (.bool false)),Dh R0 R1 S nl nr fr' sets (Dd tc row i (List.range 256) C) n [.seq 1 false (Ha tc) fk nk,M]⟩):=by
 generalize hxs:List.range 256=xs
 have key:=Xj (g:=ga (pa call pc) (fun s=>some (tidy [0,3,4,5,33,34] s)))
  (fun x t=>∃ fr' C',(fr'=0∨fr'=n * 256)∧C'.length=n * 256∧t=⟨az n row i x,Dh R0 R1 S nl nr fr' sets C' n [.seq 1 false (Ha tc) fk nk,M]⟩∧Dd tc row i xs C=Dd tc row i (xs.drop x) C')
  (fun ex t=>∃ fr',(fr'=0∨fr'=n * 256)∧ex= .exit 2∧t=⟨(az n row i 256).set 35 (.pv (.bool false)),Dh R0 R1 S nl nr fr' sets (Dd tc row i xs C) n [.seq 1 false (Ha tc) fk nk,M]⟩)
  qa 256 0 ⟨az n row i (0:Nat),Dh R0 R1 S nl nr fr sets C n [.seq 1 false (Ha tc) fk nk,M]⟩ (by unfold qa;omega) (by omega) ⟨fr,C,hfr,hC,rfl,rfl⟩ ?_ ?_
 ·obtain⟨ex,t,h,_,fr',q1,rfl,rfl⟩:=key
  exact⟨fr',q1,h⟩
 ·rintro x hx t ⟨fr',C',hf',hC',rfl,hl⟩
  have hd:=Mp hx
  rw[hxs] at hd
  rw[hd] at hl
  obtain⟨to,ht⟩:∃ to,row[x]? =some to:=⟨row[x],by simp[hrow,hx]⟩
  have hlt:=hto to (List.mem_of_getElem? ht)
  by_cases h0:0≤to
  ·obtain⟨v,hv⟩:∃ v,tc[to.toNat]? =some v:=⟨tc[to.toNat]'(by omega),by rw[List.getElem?_eq_getElem]⟩
   refine .inl ⟨_,TO call R0 R1 S nl nr nk fr' fk sets C' n tc M row i x to hC' hk (by omega) hfk hi hx ht h0 hv,n * 256,_,.inr rfl,by simpa using hC',rfl,?_⟩
   rw[hl,Dd,ht]
   have:tc.getD to.toNat 0=v:=by simp[hv]
   simp only[if_pos h0,this]
  ·refine .inl ⟨_,FL call R0 R1 S nl nr nk fr' fk sets C' n tc M row i x to hx ht (by omega),fr',C',hf',hC',rfl,?_⟩
   rw[hl,Dd,ht]
   simp only[if_neg h0]
 ·rintro t ⟨fr',C',hf',hC',rfl,hl⟩
  rw[List.drop_eq_nil_of_le (by rw[← hxs,List.length_range];exact Nat.le_refl _)] at hl
  refine⟨.exit 2,_,?_,rfl,fr',hf',rfl,rfl⟩
  rw[hl]
  have e1:decide (((256:Nat):Int) < 256)=false:=by decide
  simp -implicitDefEqProofs only[SP,SA,SQ,sevalprocAttr,-List.reduceReplicate,ga,pc,e1,az,Dh,Dd]
end
theorem Gz:∀ (a b:List Int),a.length=b.length→Hh (List.replicate a.length 1) (a.map i64) (b.map i64)=some (decide (a=b))
 | [],[],_=>rfl
 |x::a,y::b,h=>by
  have ih:=Gz a b (by simpa using h)
  simp only[List.length_cons,List.replicate_succ,List.map_cons,Hh,gp,if_true,Option.bind_some,ih,Option.map_some,List.cons.injEq,Bool.decide_and]
  congr 2
 | [],_::_,h=>by cases h
 |_::_,[],h=>by cases h
def xr (M:List (List Int×Int)):List (PV×PV):=M.map fun p=>(Kh p.1,i64 p.2)
theorem BN (M:List (List Int×Int)) (p:List Int×Int):xr (M++[p])=xr M++[(Kh p.1,i64 p.2)]:=by simp[xr]
def Qj (a:List Int):List (List Int×Int)→Option Int
 | []=>none
 |p::r=>if a=p.1 then some p.2 else Qj a r
theorem GJ {a:List Int} (ha:a.length=256):∀ (M:List (List Int×Int)) (j:Nat),(∀ p∈M,p.1.length=256)→
 (∀ v,Qj a M=some v→∃ k,Cl (.row (List.replicate 256 1)) (Kh a) (xr M) j=some (some (k,i64 v)))∧(Qj a M=none→Cl (.row (List.replicate 256 1)) (Kh a) (xr M) j=some none)
 | [],j,_=>⟨fun v h=>(by cases h),fun _=>rfl⟩
 |p::r,j,hp=>by
  have he:=Gz a p.1 (by rw[ha,hp p (by simp)])
  rw[ha] at he
  have ih:=GJ ha r (j+1) (fun q hq=>hp q (by simp[hq]))
  have hk:Rj (.row (List.replicate 256 1)) (Kh a) (Kh p.1)=some (decide (a=p.1)):=he
  rw[show xr (p::r)=(Kh p.1,i64 p.2)::xr r from rfl,Cl,hk,Option.bind_some,Qj]
  by_cases h:a=p.1
  ·rw[if_pos h,decide_eq_true h]
   exact⟨fun v e=>(by injection e with e;subst e;exact⟨j,rfl⟩),fun e=>(by cases e)⟩
  ·rw[if_neg h,decide_eq_false h]
   exact ih
theorem fK {a:List Int} (ha:a.length=256):(Rj (.row (List.replicate 256 1)) (Kh a) (Kh a)).isSome=true:=by
 have he:=Gz a a rfl
 rw[ha] at he
 show (Hh _ _ _).isSome=true
 rw[he];rfl
def Ta (C:List Int) (i:Nat):List Int:=(C.drop (i * 256)).take 256
theorem qh {C:List Int} {n i:Nat} (hC:C.length=n * 256) (hi:i < n):(Ta C i).length=256:=by
 unfold Ta;rw[List.length_take,List.length_drop,hC];omega
theorem zC (C:List Int) (i:Nat):Ad (List.take 256 (List.drop (i * 256) (Ha C)))=some ((Ta C i).map i64):=by
 have:List.take 256 (List.drop (i * 256) (Ha C))=Ha (Ta C i):=by unfold Ta Ha;rw[List.map_take,List.map_drop]
 rw[this,Ar]
structure VI where
 C:List Int
 tc:List Int
 M:List (List Int×Int)
def ik (i:Nat) (s:VI):VI:=
 let C:=Dd s.tc (Ta s.C i) i (List.range 256) s.C
 match Qj (Ta C i) s.M with
 |some v=>⟨C,s.tc.set i v,s.M⟩
 |none=>⟨C,s.tc.set i i,s.M++[(Ta C i,(i:Int))]⟩
def Vi:Nat→VI→VI
 |0,s=>s
 |i+1,s=>Vi i (ik i s)
theorem Nq {i:Nat} {s:VI} {v:Int} (h:Qj (Ta (Dd s.tc (Ta s.C i) i (List.range 256) s.C) i) s.M=some v):ik i s=⟨Dd s.tc (Ta s.C i) i (List.range 256) s.C,s.tc.set i v,s.M⟩:=by
 simp only[ik,h]
theorem Yq {i:Nat} {s:VI} (h:Qj (Ta (Dd s.tc (Ta s.C i) i (List.range 256) s.C) i) s.M=none):
 ik i s=⟨Dd s.tc (Ta s.C i) i (List.range 256) s.C,s.tc.set i i,s.M++[(Ta (Dd s.tc (Ta s.C i) i (List.range 256) s.C) i,(i:Int))]⟩:=by
 simp only[ik,h]
abbrev Zz (n:Nat) (i:Int):Tr:=(((Tr.lf.set 5 (.pv (i64 i))).set 4 (.mp 7)).set 3 (.own 6 n)).set 0 (.ptr 3 0)
section
variable (call:Wa) (R0 R1:ba) (S:PV) (nl nr nk:Bool) (fr fk:Nat) (sets:List Al) (n:Nat) (s:VI) (i:Nat)
theorem II (hC:s.C.length=n * 256) (hk:s.tc.length=n) (hfr:fr=0∨fr=n * 256) (hfk:fk≤n) (hi:i < n) (hn:n≤64) (hto:∀ to∈Ta s.C i,to < n) (hM:∀ p∈s.M,p.1.length=256):
 ∃ fr',(fr'=0∨fr'=n * 256)∧ga (pa call Bd) (fun s=>some (tidy [0,3,4,5] s)) ⟨Zz n i,Dh R0 R1 S nl nr fr sets s.C n [.seq 1 false (Ha s.tc) fk nk,.map (xr s.M)]⟩=
  some (.norm,⟨Zz n ((i:Int) - 1),Dh R0 R1 S nl nr fr' sets (ik i s).C n [.seq 1 false (Ha (ik i s).tc) n nk,.map (xr (ik i s).M)]⟩):=by
 obtain⟨fr',hf',hin⟩:=nI call R0 R1 S nl nr nk fr fk sets s.C n s.tc (.map (xr s.M)) (Ta s.C i) i hC hk hfr hfk hi (qh hC hi) hto
 refine⟨fr',hf',?_⟩
 have hC2:(Dd s.tc (Ta s.C i) i (List.range 256) s.C).length=n * 256:=by rw[xl,hC]
 have hrl:=qh hC2 hi
 have hfd:=GJ hrl s.M 0 hM
 have his:=fK hrl
 have p1:=zC s.C i
 have p2:=zC (Dd s.tc (Ta s.C i) i (List.range 256) s.C) i
 have e1:decide ((i:Int)≥0)=true:=Fa (by omega)
 have hq3:Ea (i:Int) n:=by unfold Ea;omega
 have t3:((i:Int)).toNat=i:=by simp
 have t2:IntKind.i64.wrap ((i:Int) - 1)=(i:Int) - 1:=Ca (by omega)
 have w2:vh 256 n fr (Ha s.C).length:=by rw[fb];unfold vh;omega
 have w4:((Ha s.C).length=n * 256)=True:=by rw[fb];exact eq_true hC
 have w6:(i * 256+256≤(Ha s.C).length)=True:=by rw[fb];exact eq_true (by omega)
 have hl1:=@Nq i s
 have hl2:=@Yq i s
 generalize Dd s.tc (Ta s.C i) i (List.range 256) s.C=C2 at *
 have w12:vh 256 n fr' (Ha C2).length:=by rw[fb];unfold vh;omega
 have w14:((Ha C2).length=n * 256)=True:=by rw[fb];exact eq_true hC2
 have w16:(i * 256+256≤(Ha C2).length)=True:=by rw[fb];exact eq_true (by omega)
 have w1:vh 1 n fk (Ha s.tc).length:=by rw[fb];unfold vh;omega
 have w3:((Ha s.tc).length=n)=True:=by rw[fb];exact eq_true hk
 have w5:(i+1≤n)=True:=eq_true (by omega)
 generalize hz:List.replicate 256 1=ks at *
 have hin':mb (ga (pa call pc) (fun s=>some (tidy [0,3,4,5,33,34] s))) qa ⟨az n (Ta s.C i) i 0,Dh R0 R1 S nl nr fr sets s.C n [.seq 1 false (Ha s.tc) fk nk,.map (xr s.M)]⟩=_:=hin
 simp only[az,Dh,tidy,Bc] at hin'
 cases hlk:Qj (Ta C2 i) s.M with
 |some v=>
  obtain⟨k,hk2⟩:=hfd.1 v hlk
  rw[hl1 hlk]
  simp -implicitDefEqProofs only[SP,SA,SQ,sevalprocAttr,-List.reduceReplicate,ga,Bd,e1,eq_true hq3,t2,t3,eq_true w2,w4,w6,p1,wa,zo,tidy,Bc,Zz,Dh,hz]
  rw[hin']
  simp -implicitDefEqProofs only[SP,SA,SQ,sevalprocAttr,-List.reduceReplicate,eq_true hq3,t2,t3,eq_true w12,w14,w16,eq_true w1,w3,w5,p2,wa,eq_true his,hk2,Qi,tidy,Bc,Zz,Dh]
 |none=>
  have hk2:=hfd.2 hlk
  rw[hl2 hlk]
  simp -implicitDefEqProofs only[SP,SA,SQ,sevalprocAttr,-List.reduceReplicate,ga,Bd,e1,eq_true hq3,t2,t3,eq_true w2,w4,w6,p1,wa,zo,tidy,Bc,Zz,Dh,hz]
  rw[hin']
  simp -implicitDefEqProofs only[SP,SA,SQ,sevalprocAttr,-List.reduceReplicate,eq_true hq3,t2,t3,eq_true w12,w14,w16,eq_true w1,w3,w5,p2,wa,eq_true his,hk2,Qi,tidy,Bc,Zz,Dh,BN]
end
end Go.AM.B1
namespace Go.AM.B1
open Go.AM
structure BV (n:Nat) (s:VI):Prop where
 hC:s.C.length=n * 256
 hk:s.tc.length=n
 cC:∀ c∈s.C,c < n
 ck:∀ c∈s.tc,c < n
 cM:∀ p∈s.M,p.1.length=256∧p.2 < n
theorem sD {tc row:List Int} {i:Nat} {n:Int} (hn:0 < n) (hk:∀ c∈tc,c < n):∀ (xs:List Nat) (C:List Int),(∀ c∈C,c < n)→∀ c∈Dd tc row i xs C,c < n
 | [],C,h=>h
 |x::xs,C,h=>by
  rw[Dd]
  refine sD hn hk xs _ ?_
  split
  ·split
   ·intro c hc
    rcases List.mem_or_eq_of_mem_set hc with h1 | h1
    ·exact h c h1
    ·subst h1
     next to _ _=>
     rcases Nat.lt_or_ge to.toNat tc.length with h2 | h2
     ·rw[List.getD_eq_getElem?_getD,List.getElem?_eq_getElem h2];exact hk _ (List.getElem_mem h2)
     ·rw[List.getD_eq_getElem?_getD,List.getElem?_eq_none h2];exact hn
   ·exact h
  ·exact h
theorem Ir {a:List Int}:∀ {M:List (List Int×Int)} {v:Int},Qj a M=some v→∃ p∈M,p.1=a∧p.2=v
 |p::r,v,h=>by
  rw[Qj] at h
  split at h
  ·next h1=>injection h with h;exact⟨p,by simp,h1.symm,h⟩
  ·obtain⟨q,hq,e⟩:=Ir h
   exact⟨q,by simp[hq],e⟩
theorem cB {n i:Nat} {s:VI} (hi:i < n) (h:BV n s):BV n (ik i s):=by
 have hC2:(Dd s.tc (Ta s.C i) i (List.range 256) s.C).length=n * 256:=by rw[xl,h.hC]
 have hlt:=sD (i:=i) (row:=Ta s.C i) (n:=(n:Int)) (by omega) h.ck (List.range 256) s.C h.cC
 have hl1:=@Nq i s
 have hl2:=@Yq i s
 generalize Dd s.tc (Ta s.C i) i (List.range 256) s.C=C2 at *
 cases hl:Qj (Ta C2 i) s.M with
 |some v=>
  obtain⟨p,hp,_,hv⟩:=Ir hl
  have:=(h.cM p hp).2
  rw[hl1 hl]
  refine⟨hC2,by simp[h.hk],hlt,?_,h.cM⟩
  intro c hc
  rcases List.mem_or_eq_of_mem_set hc with h1 | h1
  ·exact h.ck c h1
  ·omega
 |none=>
  rw[hl2 hl]
  refine⟨hC2,by simp[h.hk],hlt,?_,?_⟩
  ·intro c hc
   rcases List.mem_or_eq_of_mem_set hc with h1 | h1
   ·exact h.ck c h1
   ·omega
  ·intro p hp
   rcases List.mem_append.1 hp with h1 | h1
   ·exact h.cM p h1
   ·simp at h1;subst h1;exact⟨qh hC2 hi,by simp;omega⟩
theorem YC {n:Nat}:∀ (k:Nat) (s:VI),k≤n→BV n s→BV n (Vi k s)
 |0,s,_,h=>h
 |k+1,s,hk,h=>YC k _ (by omega) (cB (by omega) h)
def Ee (n:Nat) (C:List Int):VI:=Vi n ⟨C,List.replicate n 0,[]⟩
section
variable (call:Wa) (R0 R1:ba) (S:PV) (nl nr nk:Bool) (sets:List Al) (C:List Int) (n:Nat)
theorem SK (s0:VI) (hn:n≤64) (h0:0 < n) (Aa:BV n s0):
 ∃ fr fk,(fr=0∨fr=n * 256)∧mb (ga (pa call Bd) (fun s=>some (tidy [0,3,4,5] s))) qa ⟨Zz n ((n:Int) - 1),Dh R0 R1 S nl nr 0 sets s0.C n [.seq 1 false (Ha s0.tc) 0 nk,.map (xr s0.M)]⟩=
  some (.exit 0,⟨((Zz n (-1)).set 23 (.pv (i64 (-1)))).set 24 (.pv (.bool false)),Dh R0 R1 S nl nr fr sets (Vi n s0).C n [.seq 1 false (Ha (Vi n s0).tc) fk nk,.map (xr (Vi n s0).M)]⟩)∧fk≤n:=by
 have key:=Xj (g:=ga (pa call Bd) (fun s=>some (tidy [0,3,4,5] s)))
  (fun j t=>∃ fr fk s,(fr=0∨fr=n * 256)∧fk≤n∧BV n s∧t=⟨Zz n ((n:Int) - 1 - j),Dh R0 R1 S nl nr fr sets s.C n [.seq 1 false (Ha s.tc) fk nk,.map (xr s.M)]⟩∧Vi n s0=Vi (n - j) s)
  (fun ex t=>∃ fr fk,(fr=0∨fr=n * 256)∧fk≤n∧ex= .exit 0∧t=⟨((Zz n (-1)).set 23 (.pv (i64 (-1)))).set 24 (.pv (.bool false)),Dh R0 R1 S nl nr fr sets (Vi n s0).C n [.seq 1 false (Ha (Vi n s0).tc) fk nk,.map (xr (Vi n s0).M)]⟩)
  qa n 0 ⟨Zz n ((n:Int) - 1 - (0:Nat)),Dh R0 R1 S nl nr 0 sets s0.C n [.seq 1 false (Ha s0.tc) 0 nk,.map (xr s0.M)]⟩ (by unfold qa;omega) (by omega) ⟨0,0,s0,.inl rfl,by omega,Aa,rfl,rfl⟩ ?_ ?_
 ·obtain⟨ex,t,h,_,fr,fk,q1,q2,rfl,rfl⟩:=key
  rw[show ((n:Int) - 1 - (0:Nat))=(n:Int) - 1 by omega] at h
  exact⟨fr,fk,q1,h,q2⟩
 ·rintro j hj t ⟨fr,fk,s,hf,hfk,hs,rfl,hl⟩
  obtain⟨i,hi⟩:∃ i,n - j=i+1:=⟨n - j - 1,by omega⟩
  rw[hi,Vi] at hl
  obtain⟨fr',hf',hr⟩:=II call R0 R1 S nl nr nk fr fk sets n s i hs.hC hs.hk hf hfk (by omega) hn
   (fun to h=>hs.cC to (List.mem_of_mem_drop (List.mem_of_mem_take h))) (fun p hp=>(hs.cM p hp).1)
  rw[show ((n:Int) - 1 - (j:Int))=(i:Int) by omega]
  refine .inl ⟨_,hr,fr',n,ik i s,hf',by omega,cB (by omega) hs,?_,?_⟩
  ·rw[show ((n:Int) - 1 - ((j+1:Nat):Int))=(i:Int) - 1 by omega]
  ·rw[hl,show n - (j+1)=i by omega]
 ·rintro t ⟨fr,fk,s,hf,hfk,hs,rfl,hl⟩
  rw[Nat.sub_self,Vi] at hl
  rw[show ((n:Int) - 1 - (n:Int))= -1 by omega]
  refine⟨.exit 0,_,?_,rfl,fr,fk,hf,hfk,rfl,rfl⟩
  rw[hl]
  have e1:decide ((-1:Int)≥0)=false:=by decide
  simp -implicitDefEqProofs only[SP,SA,SQ,sevalprocAttr,-List.reduceReplicate,ga,Bd,e1,Zz,Dh]
theorem IE (n:Nat):Cj [PV.int .i64 0] n=Ha (List.replicate n 0):=by
 induction n with
 |zero=>rfl
 |succ n ih=>rw[Cj,ih];rfl
theorem RO (hn:n≤64) (h0:0 < n) (hs:sets.length=n) (hC:C.length=n * 256) (cC:∀ c∈C,c < n):
 ∃ fr fk v,(fr=0∨fr=n * 256)∧mg call Zh [.ptr 3 0] (Dh R0 R1 S nl nr 0 sets C n [])=
  some (v,Dh R0 R1 S nl nr fr sets (Ee n C).C n [.seq 1 false (Ha (Ee n C).tc) fk false,.map (xr (Ee n C).M)]):=by
 obtain⟨fr,fk,hf,hl,hfk⟩:=SK call R0 R1 S nl nr false sets n ⟨C,List.replicate n 0,[]⟩ hn h0
  ⟨hC,by simp,cC,by intro c hc;rw[List.eq_of_mem_replicate hc];omega,by simp⟩
 refine⟨fr,fk,.own 6 n,hf,?_⟩
 have hlen:(sets.map yh).length=n:=by rw[List.length_map,hs]
 have r0:Cj [PV.int .i64 0] n=Ha (List.replicate n 0):=IE n
 have t1:((n:Int)).toNat=n:=by simp
 have t2:IntKind.i64.wrap ((n:Int) - 1)=(n:Int) - 1:=Ca (by omega)
 have e1:(0≤(n:Int))=True:=by simp
 have e2:qb n 8:=by unfold qb;omega
 have e3:((n:Int)≤(n:Int))=True:=by simp
 unfold Ee
 generalize Vi n ⟨C,List.replicate n 0,[]⟩=g at *
 generalize List.replicate n (0:Int)=zs at *
 simp only[tidy,Bc,Zz,Dh,xr,List.map_nil] at hl
 simp -implicitDefEqProofs only[SP,SA,SQ,sevalprocAttr,-List.reduceReplicate,Zh,hlen,r0,t1,t2,e1,eq_true e2,e3,zo,tidy,Bc,Dh]
 rw[hl]
 simp -implicitDefEqProofs only[SP,SA,SQ,sevalprocAttr,-List.reduceReplicate,Dh,xr]
end
end Go.AM.B1
namespace Go.AM.B1
open Go.AM
structure Xe where
 lo:Int
 hi:Int
 to:Int
deriving DecidableEq
def xE (e:Xe):PV:= .agg [i64 e.lo,i64 e.hi,i64 e.to]
def Vc (l:List Xe):List Int:=l.flatMap fun e=>[e.lo,e.hi,e.to]
theorem vj (l:List Xe):(Vc l).length=l.length * 3:=by
 induction l with
 |nil=>rfl
 |cons e l ih=>simp only[Vc,List.flatMap_cons,List.length_append,List.length_cons,List.length_nil] at ih ⊢;omega
theorem Xk (l:List Xe) (e:Xe):Vc (l++[e])=Vc l++[e.lo,e.hi,e.to]:=by simp[Vc]
def zf (x to:Int) (l:List Xe):List Xe:=
 if to= -2 then l else match l.getLast? with
  |some e=>if e.to=to∧e.hi=x - 1 then l.dropLast++[⟨e.lo,x,e.to⟩] else l++[⟨x,x,to⟩]
  |none=>l++[⟨x,x,to⟩]
theorem oV (a b c:Int):Ha [a,b,c]=[.pv (i64 a),.pv (i64 b),.pv (i64 c)]:=rfl
theorem PC (a b:List Int):Ha (a++b)=Ha a++Ha b:=by simp[Ha]
abbrev Pr (row:List Int) (n:Nat) (x:Int):Tr:=((Tr.lf.set 8 (.pv (i64 x))).set 7 (.pv (Kh row))).set 3 (.own 0 n)
theorem kD (l:List Int) (e:Xe) (k:Nat) (hk:k < 3):(Ha (l++[e.lo,e.hi,e.to]))[l.length+k]? =some (.pv (i64 (if k=0 then e.lo else if k=1 then e.hi else e.to))):=by
 rw[Ha,List.getElem?_map,List.getElem?_append_right (by omega),Nat.add_sub_cancel_left]
 match k,hk with
 |0,_=>rfl
 |1,_=>rfl
 |2,_=>rfl
section
variable (call:Wa) (row:List Int) (x:Nat) (to:Int) (fl:Nat)
 (hx:x < 256) (hto:row[x]? =some to)
include hx hto
theorem dP (l:List Xe) (nl:Bool) (h:to= -2):ga (pa call Tc) (fun s=>some (tidy [3,7,8] s)) ⟨Pr row l.length x,[.seq 3 true (Ha (Vc l)) fl nl]⟩=
 some (.norm,⟨Pr row l.length (x+1:Nat),[.seq 3 true (Ha (Vc l)) fl nl]⟩):=by
 have e1:decide ((x:Int) < 256)=true:=Fa (by omega)
 have e2:(to== -2)=true:=by simp[h]
 have hq:Ea (x:Int) 256:=by unfold Ea;omega
 have t1:((x:Int)).toNat=x:=by simp
 have t2:=Za (i:=x) (n:=256) hx (by unfold maxLen;omega)
 have ht:(row.map i64)[x]? =some (i64 to):=by rw[List.getElem?_map,hto];rfl
 simp -implicitDefEqProofs only[SP,SA,SQ,sevalprocAttr,ga,Tc,e1,e2,eq_true hq,t1,t2,ht,wa,tidy,Bc,Pr]
theorem QJ (nl:Bool) (h:to≠ -2):ga (pa call Tc) (fun s=>some (tidy [3,7,8] s)) ⟨Pr row 0 x,[.seq 3 true [] 0 nl]⟩=
 some (.norm,⟨Pr row 1 (x+1:Nat),[.seq 3 true (Ha [(x:Int),x,to]) 0 false]⟩):=by
 have e1:decide ((x:Int) < 256)=true:=Fa (by omega)
 have e2:(to== -2)=false:=Oh h
 have hq:Ea (x:Int) 256:=by unfold Ea;omega
 have t1:((x:Int)).toNat=x:=by simp
 have t2:=Za (i:=x) (n:=256) hx (by unfold maxLen;omega)
 have ht:(row.map i64)[x]? =some (i64 to):=by rw[List.getElem?_map,hto];rfl
 have q1:qb 1 24:=by unfold qb;omega
 simp -implicitDefEqProofs only[SP,SA,SQ,sevalprocAttr,ga,Tc,e1,e2,eq_true hq,t1,t2,ht,eq_true q1,wa,tidy,Bc,Pr,Yi,Nh,AV.CB,AV.Kn,Ha]
variable (l:List Xe) (e:Xe) (hl:l.length < 256) (hfl:fl≤(l.length+1) * 3)
include hl hfl
theorem GN (h:to≠ -2) (h1:e.to=to) (h2:e.hi=(x:Int) - 1):ga (pa call Tc) (fun s=>some (tidy [3,7,8] s)) ⟨Pr row (l.length+1) x,[.seq 3 true (Ha (Vc l++[e.lo,e.hi,e.to])) fl false]⟩=
 some (.norm,⟨Pr row (l.length+1) (x+1:Nat),[.seq 3 true (Ha (Vc l++[e.lo,(x:Int),e.to])) ((l.length+1) * 3) false]⟩):=by
 have e1:decide ((x:Int) < 256)=true:=Fa (by omega)
 have e2:(to== -2)=false:=Oh h
 have hq:Ea (x:Int) 256:=by unfold Ea;omega
 have t1:((x:Int)).toNat=x:=by simp
 have t2:=Za (i:=x) (n:=256) hx (by unfold maxLen;omega)
 have ht:(row.map i64)[x]? =some (i64 to):=by rw[List.getElem?_map,hto];rfl
 have e3:decide (((l.length+1:Nat):Int) > 0)=true:=Fa (by omega)
 have t3:IntKind.i64.wrap (((l.length+1:Nat):Int) - 1)=(l.length:Int):=by rw[Ca (by omega)];omega
 have t4:((l.length:Int)).toNat=l.length:=by simp
 have t5:IntKind.i64.wrap ((x:Int) - 1)=(x:Int) - 1:=Ca (by omega)
 have hq2:Ea (l.length:Int) (l.length+1):=by unfold Ea;omega
 have hlen:(Ha (Vc l++[e.lo,e.hi,e.to])).length=(l.length+1) * 3:=by rw[fb,List.length_append,vj];simp;omega
 have w1:vh 3 (l.length+1) fl (Ha (Vc l++[e.lo,e.hi,e.to])).length:=by rw[hlen];unfold vh;omega
 have w2:((Ha (Vc l++[e.lo,e.hi,e.to])).length=(l.length+1) * 3)=True:=eq_true hlen
 have g2:=kD (Vc l) e 2 (by omega)
 have g1:=kD (Vc l) e 1 (by omega)
 rw[vj] at g1 g2
 simp only[h1,h2] at g1 g2
 have b1:(to==to)=true:=by simp
 have b2:((x:Int) - 1==(x:Int) - 1)=true:=by simp
 have w3:(l.length * 3+1+1≤(l.length+1) * 3)=True:=eq_true (by omega)
 have hset:(Ha (Vc l++[e.lo,(x:Int) - 1,to])).set (l.length * 3+1) (.pv (i64 x))=Ha (Vc l++[e.lo,(x:Int),to]):=by
  rw[Qi,←vj,List.set_append_right _ _ (by omega),Nat.add_sub_cancel_left];rfl
 rw[h1,h2] at *
 generalize Vc l++[e.lo,(x:Int) - 1,to]=cs at *
 simp -implicitDefEqProofs only[SP,SA,SQ,sevalprocAttr,ga,Tc,e1,e2,e3,eq_true hq,eq_true hq2,t1,t2,t3,t4,t5,ht,g1,g2,eq_true w1,w2,w3,b1,b2,hset,wa,tidy,Bc,Pr]
theorem qO (h:to≠ -2) (h1:¬(e.to=to∧e.hi=(x:Int) - 1)):ga (pa call Tc) (fun s=>some (tidy [3,7,8] s)) ⟨Pr row (l.length+1) x,[.seq 3 true (Ha (Vc l++[e.lo,e.hi,e.to])) fl false]⟩=
 some (.norm,⟨Pr row (l.length+1+1) (x+1:Nat),[.seq 3 true (Ha (Vc l++[e.lo,e.hi,e.to])++Ha [(x:Int),x,to]) fl false]⟩):=by
 have e1:decide ((x:Int) < 256)=true:=Fa (by omega)
 have e2:(to== -2)=false:=Oh h
 have hq:Ea (x:Int) 256:=by unfold Ea;omega
 have t1:((x:Int)).toNat=x:=by simp
 have t2:=Za (i:=x) (n:=256) hx (by unfold maxLen;omega)
 have ht:(row.map i64)[x]? =some (i64 to):=by rw[List.getElem?_map,hto];rfl
 have e3:decide (((l.length+1:Nat):Int) > 0)=true:=Fa (by omega)
 have t3:IntKind.i64.wrap (((l.length+1:Nat):Int) - 1)=(l.length:Int):=by rw[Ca (by omega)];omega
 have t4:((l.length:Int)).toNat=l.length:=by simp
 have t5:IntKind.i64.wrap ((x:Int) - 1)=(x:Int) - 1:=Ca (by omega)
 have hq2:Ea (l.length:Int) (l.length+1):=by unfold Ea;omega
 have hlen:(Ha (Vc l++[e.lo,e.hi,e.to])).length=(l.length+1) * 3:=by rw[fb,List.length_append,vj];simp;omega
 have w1:vh 3 (l.length+1) fl (Ha (Vc l++[e.lo,e.hi,e.to])).length:=by rw[hlen];unfold vh;omega
 have w2:((Ha (Vc l++[e.lo,e.hi,e.to])).length=(l.length+1) * 3)=True:=eq_true hlen
 have w2':((l.length+1) * 3=(Ha (Vc l++[e.lo,e.hi,e.to])).length)=True:=eq_true hlen.symm
 have g2:(Ha (Vc l++[e.lo,e.hi,e.to]))[(Vc l).length+2]? =some (.pv (i64 e.to)):=kD (Vc l) e 2 (by omega)
 have g1:(Ha (Vc l++[e.lo,e.hi,e.to]))[(Vc l).length+1]? =some (.pv (i64 e.hi)):=kD (Vc l) e 1 (by omega)
 rw[vj] at g1 g2
 have q1:qb (l.length+1+1) 24:=by unfold qb;omega
 generalize Vc l++[e.lo,e.hi,e.to]=cs at *
 by_cases hb1:e.to=to
 ·have b1:(e.to==to)=true:=by simp[hb1]
  have b2:(e.hi==(x:Int) - 1)=false:=Oh fun hh=>h1 ⟨hb1,hh⟩
  simp -implicitDefEqProofs only[SP,SA,SQ,sevalprocAttr,ga,Tc,e1,e2,e3,eq_true hq,eq_true hq2,t1,t2,t3,t4,t5,ht,g1,g2,eq_true w1,w2,w2',eq_true q1,b1,b2,wa,tidy,Bc,Pr,Yi,Nh,AV.CB,AV.Kn,oV]
 ·have b1:(e.to==to)=false:=Oh hb1
  simp -implicitDefEqProofs only[SP,SA,SQ,sevalprocAttr,ga,Tc,e1,e2,e3,eq_true hq,eq_true hq2,t1,t2,t3,t4,t5,ht,g1,g2,eq_true w1,w2,w2',eq_true q1,b1,wa,tidy,Bc,Pr,Yi,Nh,AV.CB,AV.Kn,oV]
end
end Go.AM.B1
namespace Go.AM.B1
open Go.AM
def fe (row:List Int):List Nat→List Xe→List Xe
 | [],l=>l
 |x::xs,l=>fe row xs (zf x (row.getD x 0) l)
def Ef (row:List Int):List Xe:=fe row (List.range 256) []
def Ud (l:List Xe):PV:=if l.isEmpty then .ma else .lit 3 (l.map xE)
theorem Ix (x:Int) (l:List Xe):zf x (-2) l=l:=by simp[zf]
theorem Dv {x to:Int} (h:to≠ -2):zf x to []=[⟨x,x,to⟩]:=by simp[zf,h]
theorem fx {x:Int} {l:List Xe} {e:Xe} (h:e.to≠ -2) (h2:e.hi=x - 1):zf x e.to (l++[e])=l++[⟨e.lo,x,e.to⟩]:=by simp[zf,h,h2]
theorem zt {x to:Int} {l:List Xe} {e:Xe} (h:to≠ -2) (h2:¬(e.to=to∧e.hi=x - 1)):zf x to (l++[e])=l++[e]++[⟨x,x,to⟩]:=by
 simp only[zf,if_neg h,List.getLast?_append,List.getLast?_singleton,Option.some_or,if_neg h2]
theorem RE (H:List ba) (d:Nat) (l:List Int):Oa (Vb H d) (Ha l)=some (l.map i64):=by
 induction l with
 |nil=>rfl
 |cons a l ih=>simp only[Ha,List.map_cons,Oa,fg,Option.bind_some] at ih ⊢;rw[ih];rfl
theorem dL:∀ (l:List Xe),chunk 3 true l.length ((Vc l).map i64)=l.map xE
 | []=>rfl
 |e::l=>by
  have:=dL l
  rw[List.length_cons,chunk]
  simp only[Vc,List.flatMap_cons,List.cons_append,List.nil_append,List.map_cons,List.take,List.drop,if_true] at this ⊢
  rw[this];rfl
theorem PK (H:List ba) (id:Nat) (l:List Xe) (fl:Nat) (h:H[id]? =some (.seq 3 true (Ha (Vc l)) fl l.isEmpty)):Vb H deep (.own id l.length)=some (Ud l):=by
 have hl:(l.length * 3=(Ha (Vc l)).length)=True:=by rw[fb,vj];exact eq_self _
 rw[zc]
 simp only[Vb,h,hl,Bool.true_or,and_self,if_true]
 unfold Ud
 cases hn:l.isEmpty with
 |true=>rfl
 |false=>simp only[Bool.false_eq_true,if_false,RE,Option.map_some,dL]
section
variable (row:List Int) (hrow:row.length=256)
include hrow
theorem sK (call:Wa):∃ fl,mb (ga (pa call Tc) (fun s=>some (tidy [3,7,8] s))) qa ⟨Pr row 0 0,[.seq 3 true [] 0 true]⟩=
 some (.exit 0,⟨(Pr row (Ef row).length 256).set 9 (.pv (.bool false)),[.seq 3 true (Ha (Vc (Ef row))) fl (Ef row).isEmpty]⟩):=by
 unfold Ef
 generalize hxs:List.range 256=xs
 have key:=Xj (g:=ga (pa call Tc) (fun s=>some (tidy [3,7,8] s)))
  (fun x t=>∃ fl l,fl≤l.length * 3∧l.length≤x∧t=⟨Pr row l.length x,[.seq 3 true (Ha (Vc l)) fl l.isEmpty]⟩∧fe row xs []=fe row (xs.drop x) l)
  (fun ex t=>∃ fl,ex= .exit 0∧t=⟨(Pr row (fe row xs []).length 256).set 9 (.pv (.bool false)),[.seq 3 true (Ha (Vc (fe row xs []))) fl (fe row xs []).isEmpty]⟩)
  qa 256 0 ⟨Pr row 0 (0:Nat),[.seq 3 true [] 0 true]⟩ (by unfold qa;omega) (by omega) ⟨0,[],by simp,by simp,rfl,rfl⟩ ?_ ?_
 ·obtain⟨ex,t,h,_,fl,rfl,rfl⟩:=key
  exact⟨fl,h⟩
 ·rintro x hx t ⟨fl,l,hf,hlx,rfl,hl⟩
  have hd:=Mp hx
  rw[hxs] at hd
  obtain⟨to,ht⟩:∃ to,row[x]? =some to:=⟨row[x],by simp[hrow,hx]⟩
  have hgd:row.getD x 0=to:=by simp[List.getD_eq_getElem?_getD,ht]
  rw[hd,fe,hgd] at hl
  by_cases h2:to= -2
  ·rw[h2,Ix] at hl
   exact .inl ⟨_,dP call row x to fl hx ht l _ h2,fl,l,hf,by omega,rfl,hl⟩
  rcases List.eq_nil_or_concat l with rfl | ⟨l',e,rfl⟩
  ·rw[Dv h2] at hl
   have hf0:fl=0:=by simpa using hf
   subst hf0
   exact .inl ⟨_,QJ call row x to hx ht true h2,0,[⟨x,x,to⟩],by simp,by simp,rfl,hl⟩
  ·simp only[List.concat_eq_append] at *
   have hem:(l'++[e]).isEmpty=false:=by simp
   have hlen:(l'++[e]).length=l'.length+1:=by simp
   rw[hlen] at hf hlx
   rw[hem,hlen,Xk]
   by_cases h3:e.to=to∧e.hi=(x:Int) - 1
   ·obtain⟨h3,h4⟩:=h3
    rw[← h3,fx (by rw[h3];exact h2) h4] at hl
    refine .inl ⟨_,GN call row x to fl hx ht l' e (by omega) hf h2 h3 h4,(l'.length+1) * 3,l'++[⟨e.lo,x,e.to⟩],by simp,by simp;omega,?_,hl⟩
    rw[Xk];simp
   ·rw[zt h2 h3] at hl
    refine .inl ⟨_,qO call row x to fl hx ht l' e (by omega) hf h2 h3,fl,_,?_,?_,?_,hl⟩
    ·simp;omega
    ·simp;omega
    ·rw[Xk,Xk,PC];simp[Ha]
 ·rintro t ⟨fl,l,hf,hlx,rfl,hl⟩
  rw[List.drop_eq_nil_of_le (by rw[← hxs,List.length_range];exact Nat.le_refl _)] at hl
  refine⟨.exit 0,_,?_,rfl,fl,rfl,rfl⟩
  rw[hl]
  have e1:decide (((256:Nat):Int) < 256)=false:=by decide
  simp -implicitDefEqProofs only[SP,SA,SQ,sevalprocAttr,ga,Tc,e1,Pr,fe]
theorem vN:Lo [Kh row]=some (Ud (Ef row)):=by
 obtain⟨fl,hl⟩:=sK row hrow (Ba (fun _=>none) 8)
 have ht:=PK [.seq 3 true (Ha (Vc (Ef row))) fl (Ef row).isEmpty] 0 (Ef row) fl rfl
 have h9:(row.map i64).map AV.pv=Ha row:=(Ur row).symm
 have p0:((Ha row).length=256)=True:=by rw[fb,hrow];exact eq_self _
 have p1:(256≤(Ha row).length)=True:=by rw[fb,hrow];exact eq_true (Nat.le_refl _)
 have p2:List.take 256 (Ha row)=Ha row:=List.take_of_length_le (by rw[fb,hrow];exact Nat.le_refl _)
 have p3:=Ar row
 have p5:=NB row
 have p6:=RE [] 0 row
 have p8:List.take 256 (row.map i64)=row.map i64:=List.take_of_length_le (by rw[List.length_map,hrow];exact Nat.le_refl _)
 have p7:(256≤(row.map i64).length)=True:=by rw[List.length_map,hrow];exact eq_true (Nat.le_refl _)
 have p4:((row.map i64).length=256)=True:=by rw[List.length_map,hrow];exact eq_self _
 generalize Ef row=es at *
 simp only[tidy,Bc,Pr] at hl
 simp -implicitDefEqProofs only[Lo,SP,SA,SQ,sevalprocAttr,Ct,h9,p0,p1,p2,p3,p4,p5,p6,p7,p8,Ve,zo,tidy,Bc]
 rw[hl]
 simp -implicitDefEqProofs only[SP,SA,SQ,sevalprocAttr,ht]
end
end Go.AM.B1
