/- What functions of the program compute. -/
import Derived.Test.YtdglpnpkgngcdaaGreatX3
import Derived.Test.YtdglpnpkgngcdaaGreatX2
set_option linter.unusedVariables false
set_option linter.unusedSimpArgs false
namespace Go.AM.B1
open Go.AM Go.AM.So
theorem bE {top:Int}:∀ {l:List (Int×Int)} {last:Int},Na top last l=true→∀ p∈l,last < p.1 - 1
 |q::l,last,h,p,hp=>by
  obtain⟨h1,h2,h3,h4,h5⟩:=ee h
  rcases List.mem_cons.1 hp with rfl | hp
  ·omega
  ·have:=bE h5 p hp;omega
theorem cn {top last x:Int} {l:List (Int×Int)} (h:Na top last l=true) (hx:uj x l):last+1 < x:=by
 obtain⟨p,hp,h1,h2⟩:=hx
 have:=bE h p hp;omega
theorem Ts {top:Int}:∀ (n:Nat) (a b:List (Int×Int)) (la lb:Int),Na top la a=true→Na top lb b=true→a.length+b.length≤n→
 (∀ x,uj x (Gf n a b)↔uj x a∧uj x b)∧∀ p∈Gf n a b,p.1≤p.2
 |0,a,b,la,lb,_,_,hn=>by
  have:a=[]:=List.eq_nil_of_length_eq_zero (by omega)
  subst this
  exact⟨fun x=>by simp[Gf,wm],by simp[Gf]⟩
 |n+1,[],b,la,lb,_,_,hn=>⟨fun x=>by simp[Gf,wm],by simp[Gf]⟩
 |n+1,p::a,[],la,lb,_,_,hn=>⟨fun x=>by simp[Gf,wm],by simp[Gf]⟩
 |n+1,p::a,q::b,la,lb,ha,hb,hn=>by
  obtain⟨a1,a2,a3,a4,a5⟩:=ee ha
  obtain⟨b1,b2,b3,b4,b5⟩:=ee hb
  rw[Gf]
  have hlo:p.1≤(if q.1 > p.1 then q.1 else p.1)∧q.1≤(if q.1 > p.1 then q.1 else p.1)∧((if q.1 > p.1 then q.1 else p.1)=p.1∨(if q.1 > p.1 then q.1 else p.1)=q.1):=by split <;> omega
  have hhi:(if q.2 < p.2 then q.2 else p.2)≤p.2∧(if q.2 < p.2 then q.2 else p.2)≤q.2∧((if q.2 < p.2 then q.2 else p.2)=p.2∨(if q.2 < p.2 then q.2 else p.2)=q.2):=by split <;> omega
  generalize (if q.1 > p.1 then q.1 else p.1)=lo at *
  generalize (if q.2 < p.2 then q.2 else p.2)=hi at *
  have hpc:∀ x,uj x (if lo≤hi then [(lo,hi)] else [])↔(p.1≤x∧x≤p.2)∧(q.1≤x∧x≤q.2):=by
   intro x
   by_cases h:lo≤hi
   ·rw[if_pos h,Nn];simp only;omega
   ·rw[if_neg h]
    simp only[wm,false_iff]
    omega
  have hpl:∀ r∈(if lo≤hi then [(lo,hi)] else []),r.1≤r.2:=by
   intro r hr
   by_cases h:lo≤hi
   ·rw[if_pos h] at hr;simp at hr;subst hr;exact h
   ·rw[if_neg h] at hr;simp at hr
  by_cases c:p.2 < q.2
  ·rw[if_pos c]
   have ih:=Ts n a (q::b) p.2 lb a5 hb (by simp at hn ⊢;omega)
   refine⟨fun x=> ?_,fun r hr=> ?_⟩
   ·rw[Rr,hpc,ih.1,El,El]
    have hfar:uj x b→q.2+1 < x:=cn b5
    constructor
    ·rintro (⟨h1,h2⟩ | ⟨h1,h2⟩)
     ·exact⟨.inl h1,.inl h2⟩
     ·exact⟨.inr h1,h2⟩
    ·rintro⟨h1 | h1,h2⟩
     ·rcases h2 with h2 | h2
      ·exact .inl ⟨h1,h2⟩
      ·have:=hfar h2;omega
     ·exact .inr ⟨h1,h2⟩
   ·rcases List.mem_append.1 hr with h | h
    ·exact hpl r h
    ·exact ih.2 r h
  ·rw[if_neg c]
   have ih:=Ts n (p::a) b la q.2 ha b5 (by simp at hn ⊢;omega)
   refine⟨fun x=> ?_,fun r hr=> ?_⟩
   ·rw[Rr,hpc,ih.1,El,El]
    have hfar:uj x a→p.2+1 < x:=cn a5
    constructor
    ·rintro (⟨h1,h2⟩ | ⟨h1,h2⟩)
     ·exact⟨.inl h1,.inl h2⟩
     ·exact⟨h1,.inr h2⟩
    ·rintro⟨h1,h2 | h2⟩
     ·rcases h1 with h1 | h1
      ·exact .inl ⟨h1,h2⟩
      ·have:=hfar h1;omega
     ·exact .inr ⟨h1,h2⟩
   ·rcases List.mem_append.1 hr with h | h
    ·exact hpl r h
    ·exact ih.2 r h
theorem pL {top:Int} {a b:List (Int×Int)} (ha:Na top (-2) a=true) (hb:Na top (-2) b=true):Gf (a.length+b.length) a b≠[]↔∃ x,uj x a∧uj x b:=by
 have h:=Ts (a.length+b.length) a b (-2) (-2) ha hb (Nat.le_refl _)
 constructor
 ·intro hne
  obtain⟨p,r,hpr⟩:=List.exists_cons_of_ne_nil hne
  have hp:p∈Gf (a.length+b.length) a b:=by rw[hpr];simp
  exact⟨p.1,(h.1 p.1).1 ⟨p,hp,Int.le_refl _,h.2 p hp⟩⟩
 ·rintro⟨x,hx⟩ he
  have:=(h.1 x).2 hx
  rw[he] at this
  exact wm x this
theorem Fw:∀ (n:Nat) (a b:List (Int×Int)),(Gf n a b).length≤n
 |0,a,b=>by simp[Gf]
 |n+1,[],b=>by simp[Gf]
 |n+1,p::a,[]=>by simp[Gf]
 |n+1,p::a,q::b=>by
  rw[Gf,List.length_append]
  generalize (if q.1 > p.1 then q.1 else p.1)=lo
  generalize (if q.2 < p.2 then q.2 else p.2)=hi
  have h1:(if lo≤hi then [(lo,hi)] else []).length≤1:=by
   by_cases h:lo≤hi
   ·rw[if_pos h];simp
   ·rw[if_neg h];simp
  by_cases c:p.2 < q.2
  ·rw[if_pos c];have:=Fw n a (q::b);omega
  ·rw[if_neg c];have:=Fw n (p::a) b;omega
theorem wA (A B:PV) (a b:List (Int×Int)) (hA:Th 2 A (Jd a)) (hB:Th 2 B (Jd b)) (hva:Na Kx (-2) a=true) (hvb:Na Kx (-2) b=true) (hw:(a.length+b.length) * 16≤140737488355328):
 ym [A,B]=some (.lit 2 (Jd (Gf (a.length+b.length) a b))):=by
 have h1:=Ou A a hA (by omega) hva
 have h2:=Ou B b hB (by omega) hvb
 obtain⟨u,h3,h4⟩:=OI (.lit 2 (Jd a)) (.lit 2 (Jd b)) a b (.inr rfl) (.inr rfl) hw
 have h5:=Gl u _ h4 (by have:=Fw (a.length+b.length) a b;omega)
 rw[← SH] at h5
 have h6:rm [u]=some (.lit 2 (Jd (Gf (a.length+b.length) a b))):=by
  simp -implicitDefEqProofs only[rm,SP,SA,SQ,sevalprocAttr,qq,jg,Ac,h5]
 simp -implicitDefEqProofs only[ym,SP,SA,SQ,sevalprocAttr,Wp,jg,Ac,h1,h2,h3,h6]
theorem Kr (v:PV) (l:List (Int×Int)) (hv:Th 2 v (Jd l)) (hw:l.length * 16≤140737488355328) (hval:Na 255 (-2) l=true):cg [v]=some (.lit 2 (Jd l)):=by
 have h1:=Gl v l hv hw
 have h2:=Js (.lit 2 (Jd l)) l (.inr rfl) (by unfold maxLen;omega) 255 (by decide)
 rw[hval] at h2
 simp -implicitDefEqProofs only[cg,SP,SA,SQ,sevalprocAttr,Wn,jg,Ac,h1,h2]
theorem QD (A B:PV) (a b:List (Int×Int)) (hA:Th 2 A (Jd a)) (hB:Th 2 B (Jd b)) (hva:Na 255 (-2) a=true) (hvb:Na 255 (-2) b=true) (hw:(a.length+b.length) * 16≤140737488355328):
 qp [A,B]=some (.lit 2 (Jd (Gf (a.length+b.length) a b))):=by
 have h1:=Kr A a hA (by omega) hva
 have h2:=Kr B b hB (by omega) hvb
 obtain⟨u,h3,h4⟩:=OI (.lit 2 (Jd a)) (.lit 2 (Jd b)) a b (.inr rfl) (.inr rfl) hw
 have h5:=Gl u _ h4 (by have:=Fw (a.length+b.length) a b;omega)
 rw[← EI] at h5
 have h6:Zo [u]=some (.lit 2 (Jd (Gf (a.length+b.length) a b))):=by
  simp -implicitDefEqProofs only[Zo,SP,SA,SQ,sevalprocAttr,vu,jg,Ac,h5]
 simp -implicitDefEqProofs only[qp,SP,SA,SQ,sevalprocAttr,nu,jg,Ac,h1,h2,h3,h6]
theorem Vz (n:Int) (l:List (Int×Int)):Lc n l=n+Lc 0 l:=by
 induction l generalizing n with
 |nil=>simp[Lc]
 |cons p l ih=>rw[Lc,Lc,ih,ih (0+(p.2 - p.1+1))];omega
theorem Gn {top:Int}:∀ {l:List (Int×Int)} {last:Int},Na top last l=true→0≤Lc 0 l∧(l≠[]→1≤Lc 0 l∧Lc 0 l≤top - last - 1∧Lc 0 l≤top+1)∧Lc 0 l≤max 0 (top+1)
 | [],last,_=>⟨by simp[Lc],fun h=>absurd rfl h,by simp[Lc];omega⟩
 |p::l,last,h=>by
  obtain⟨h1,h2,h3,h4,h5⟩:=ee h
  have ih:=Gn h5
  rw[Lc,Vz]
  have key:l≠[]∨l=[]:=by cases l <;> simp
  rcases key with hl | hl
  ·have:=ih.2.1 hl
   exact⟨by omega,fun _=>⟨by omega,by omega,by omega⟩,by omega⟩
  ·subst hl
   simp only[Lc]
   exact⟨by omega,fun _=>⟨by omega,by omega,by omega⟩,by omega⟩
theorem cq {top:Int}:∀ {l:List (Int×Int)} {last:Int},Na top last l=true→(l.length:Int)≤max 0 (top - last)
 | [],last,_=>by simp;omega
 |p::l,last,h=>by
  obtain⟨h1,h2,h3,h4,h5⟩:=ee h
  have:=cq h5
  simp only[List.length_cons]
  omega
theorem jw (v:PV) (l:List (Int×Int)) (hv:Th 2 v (Jd l)) (hw:l.length * 16≤140737488355328) (hval:Na 255 (-2) l=true):Zl [v]=some (i64 (Lc 0 l)):=by
 have h1:=Kr v l hv hw hval
 have h2:=KS (.lit 2 (Jd l)) l (.inr rfl) (by unfold maxLen;omega) (top:=255) (by decide) hval
 simp -implicitDefEqProofs only[Zl,SP,SA,SQ,sevalprocAttr,au,jg,Ac,h1,h2]
end Go.AM.B1
namespace Go.AM.B1
open Go.AM
theorem Hn (A:List ba) (o:ba):(A++[o])[A.length]? =some o:=by simp
theorem Kn (A:List ba) (o o':ba):(A++[o]).set A.length o'=A++[o']:=by
 apply List.ext_getElem?
 intro i
 by_cases h:i=A.length
 ·subst h;simp
 ·rw[List.getElem?_set_ne (Ne.symm h)]
  rcases Nat.lt_or_ge i A.length with h1 | h1
  ·rw[List.getElem?_append_left h1,List.getElem?_append_left h1]
  ·rw[List.getElem?_append_right h1,List.getElem?_append_right h1]
   have:i - A.length≠0:=by omega
   obtain⟨k,hk⟩:∃ k,i - A.length=k+1:=⟨i - A.length - 1,by omega⟩
   rw[hk];simp
abbrev u32 (n:Int):PV:= .int .u32 n
abbrev Tw (S:PV) (x d bits len i left:Int) (ends:Bool):Tr:=
 ((((((Tr.lf.set 18 (.pv (i64 i))).set 17 (.pv (i64 len))).set 16 (.pv S)).set 9 (.pv (.bool ends))).set 8 (.pv (u32 left))).set 4 (.pv (.rp [i64 d,u32 bits] 0))).set 2 (.pv (i64 x))
def gz (bits:Int) (i:Nat):Bool:=IntKind.u32.wrap (((BitVec.ofInt IntKind.u32.bits (bits.fdiv (2 ^ min i IntKind.u32.bits)) &&& BitVec.ofInt IntKind.u32.bits 1).toNat:Nat):Int)==1
theorem Jw (bits:Int) (i:Nat):(IntKind.u32.wrap (((BitVec.ofInt IntKind.u32.bits (bits.fdiv (2 ^ min i IntKind.u32.bits)) &&& BitVec.ofInt IntKind.u32.bits 1).toNat:Nat):Int)==1)=gz bits i:=rfl
def mX (left:Int) (i:Nat):Int:=IntKind.u32.wrap (((BitVec.ofInt IntKind.u32.bits left ||| BitVec.ofInt IntKind.u32.bits (IntKind.u32.wrap (1 * 2 ^ min i IntKind.u32.bits))).toNat:Nat):Int)
theorem iJ (left:Int) (i:Nat):IntKind.u32.wrap (((BitVec.ofInt IntKind.u32.bits left ||| BitVec.ofInt IntKind.u32.bits (IntKind.u32.wrap (1 * 2 ^ min i IntKind.u32.bits))).toNat:Nat):Int)=mX left i:=rfl
section
variable (call:Xa) (A:List ba) (ss:List PV) (x bits left:Int) (d:Nat) (ends:Bool) (i len:Nat) (hi:i < len) (hl:len=ss.length) (hw:len≤maxLen) (ps:List PV) (first:Int) (hs:ss[i]? =some (.agg [.lit 1 ps,i64 first]))
include hi hl hw hs
theorem UT (hb:gz bits i=false):
 ma (ta call Eb) (fun s=>some (tidy [2,4,8,9,16,17,18] s)) ⟨Tw (.lit 2 ss) x d bits len i left ends,A⟩=
  some (.norm,⟨Tw (.lit 2 ss) x d bits len (i+1:Nat) left ends,A++[.box [.pv (.lit 1 ps),.pv (i64 first)]]⟩):=by
 have e1:decide ((i:Int) < (len:Int))=true:=Ea (by omega)
 have hq:Ga (i:Int) ss.length:=by unfold Ga;omega
 have t1:((i:Int)).toNat=i:=by simp
 have t2:=Va hi hw
 have hn:((i:Int) < 0)=False:=by simp
 simp -implicitDefEqProofs only[SP,SA,SQ,sevalprocAttr,ma,Eb,e1,eq_true hq,t1,t2,hs,hn,Jw,hb,wa,Hn,Kn,tidy,zc,Tw]
theorem ZU (hb:gz bits i=true) (qs:List PV) (hp:ps[d]? =some (.lit 2 qs)) (hdl:d < ps.length) (hd:d < 4611686018427387904) (hh:Dk [.lit 2 qs,i64 x]=some (.bool false)):
 ma (ta call Eb) (fun s=>some (tidy [2,4,8,9,16,17,18] s)) ⟨Tw (.lit 2 ss) x d bits len i left ends,A⟩=
  some (.norm,⟨Tw (.lit 2 ss) x d bits len (i+1:Nat) left ends,A++[.box [.pv (.lit 1 ps),.pv (i64 first)]]⟩):=by
 have e1:decide ((i:Int) < (len:Int))=true:=Ea (by omega)
 have hq:Ga (i:Int) ss.length:=by unfold Ga;omega
 have t1:((i:Int)).toNat=i:=by simp
 have t2:=Va hi hw
 have hn:((i:Int) < 0)=False:=by simp
 have hq2:Ga (d:Int) ps.length:=by unfold Ga;omega
 have t3:((d:Int)).toNat=d:=by simp
 simp -implicitDefEqProofs only[SP,SA,SQ,sevalprocAttr,ma,Eb,e1,eq_true hq,eq_true hq2,t1,t2,t3,hs,hn,Jw,hb,hp,hh,jg,Ac,wa,Hn,Kn,tidy,zc,Tw]
theorem QW (hb:gz bits i=true) (qs:List PV) (hp:ps[d]? =some (.lit 2 qs)) (hdl:d < ps.length) (hd:d < 4611686018427387904) (hh:Dk [.lit 2 qs,i64 x]=some (.bool true)):
 ma (ta call Eb) (fun s=>some (tidy [2,4,8,9,16,17,18] s)) ⟨Tw (.lit 2 ss) x d bits len i left ends,A⟩=
  some (.norm,⟨Tw (.lit 2 ss) x d bits len (i+1:Nat) (mX left i) (ends||(ps.length==d+1)),A++[.box [.pv (.lit 1 ps),.pv (i64 first)]]⟩):=by
 have e1:decide ((i:Int) < (len:Int))=true:=Ea (by omega)
 have hq:Ga (i:Int) ss.length:=by unfold Ga;omega
 have t1:((i:Int)).toNat=i:=by simp
 have t2:=Va hi hw
 have hn:((i:Int) < 0)=False:=by simp
 have hq2:Ga (d:Int) ps.length:=by unfold Ga;omega
 have t3:((d:Int)).toNat=d:=by simp
 have t4:IntKind.i64.wrap ((d:Int)+1)=((d+1:Nat):Int):=Ba (by omega)
 have t5:((ps.length:Int)==((d+1:Nat):Int))=(ps.length==d+1):=by
  rw[Bool.eq_iff_iff];simp;omega
 cases ends with
 |true=>simp -implicitDefEqProofs only[SP,SA,SQ,sevalprocAttr,ma,Eb,e1,eq_true hq,eq_true hq2,t1,t2,t3,t4,t5,hs,hn,Jw,iJ,hb,hp,hh,jg,Ac,wa,Hn,Kn,tidy,zc,Tw]
 |false=>simp -implicitDefEqProofs only[SP,SA,SQ,sevalprocAttr,ma,Eb,e1,eq_true hq,eq_true hq2,t1,t2,t3,t4,t5,hs,hn,Jw,iJ,hb,hp,hh,jg,Ac,wa,Hn,Kn,tidy,zc,Tw]
end
structure mc where
 parts:List (List (Int×Int))
 first:Int
def ye (l:List (Int×Int)):PV:= .lit 2 (Jd l)
def De (s:mc):PV:= .agg [.lit 1 (s.parts.map ye),i64 s.first]
def VN (l:List (Int×Int)) (x:Int):Bool:=(sg x 0 (Dx l)).2
def Vs (s:mc) (d:Nat) (x:Int):Bool:=
 match s.parts[d]? with
 |some l=>VN l x
 |none=>false
def Xg (x bits:Int) (d:Nat):Nat→List mc→Int×Bool→Int×Bool
 |_,[],acc=>acc
 |i,s::r,acc=>Xg x bits d (i+1) r (if gz bits i&&Vs s d x then (mX acc.1 i,acc.2||(s.parts.length==d+1)) else acc)
theorem WH (l:List (Int×Int)):xy (.lit 2 (Jd l))=some l:=by
 have:Pa Iy (Jd l)=some l:=by
  induction l with
  |nil=>rfl
  |cons p l ih=>simp only[Jd,List.map_cons,Pa,Iy,Option.bind_some] at ih ⊢;rw[ih];rfl
 exact this
theorem yO {l:List (Int×Int)} (h:l.length * 16≤140737488355328) (x:Int):Dk [ye l,i64 x]=some (.bool (VN l x)):=by
 simp only[Dk,ye,WH,Option.bind_some,if_pos h];rfl
def PE (ss:List mc):List ba:=ss.map fun s=> .box [.pv (.lit 1 (s.parts.map ye)),.pv (i64 s.first)]
section
variable (call:Xa) (H:List ba) (id:Nat) (rest:List AV) (S:PV) (ss:List mc) (x bits:Int) (d:Nat)
 (hid:H[id]? =some (.box (.pv S::rest))) (hS:Th 2 S (ss.map De)) (hw:ss.length≤maxLen) (hd:d < 4611686018427387904)
 (Aa:∀ i s,ss[i]? =some s→gz bits i=true→d < s.parts.length) (hsz:∀ s∈ss,∀ l∈s.parts,l.length * 16≤140737488355328)
include hid hS hw hd Aa hsz
theorem Fp:og call Oh [.ptr id 0,.pv (.agg [i64 d,u32 bits]),.pv (i64 x)] H=
 some (.pv (.oc [u32 (Xg x bits d 0 ss (0,false)).1,.bool (Xg x bits d 0 ss (0,false)).2]),H++PE ss):=by
 have ls:=hS.len
 simp only[List.length_map] at ls
 have key:=Ck (g:=ma (ta call Eb) (fun s=>some (tidy [2,4,8,9,16,17,18] s)))
  (fun i t=>∃ left ends,t=⟨Tw S x d bits ss.length i left ends,H++PE (ss.take i)⟩∧Xg x bits d 0 ss (0,false)=Xg x bits d i (ss.drop i) (left,ends))
  (fun ex t=>ex= .exit 0∧t=⟨(Tw S x d bits ss.length ss.length (Xg x bits d 0 ss (0,false)).1 (Xg x bits d 0 ss (0,false)).2).set 19 (.pv (.bool false)),H++PE ss⟩)
  qa ss.length 0 ⟨Tw S x d bits ss.length (0:Nat) 0 false,H⟩ (by unfold qa;unfold maxLen at hw;omega) (by omega) ⟨0,false,by simp[PE],rfl⟩ ?_ ?_
 ·obtain⟨ex,t,h,_,rfl,rfl⟩:=key
  generalize Xg x bits d 0 ss (0,false)=r at *
  simp -implicitDefEqProofs only[SP,SA,SQ,sevalprocAttr,Oh,ls,hid,gp,tidy,zc,Tw,h]
  simp only[Tw] at h
  have h':fb (ma (ta call Eb) (fun s=>some (tidy [2,4,8,9,16,17,18] s))) qa ⟨((((((Tr.lf.set 18 (.pv (i64 0))).set 17 (.pv (i64 ss.length))).set 16 (.pv S)).set 9 (.pv (.bool false))).set 8 (.pv (u32 0))).set 4 (.pv (.rp [i64 d,u32 bits] 0))).set 2 (.pv (i64 x)),H⟩=_:=h
  simp only[tidy,zc] at h'
  rw[h']
  simp -implicitDefEqProofs only[SP,SA,SQ,sevalprocAttr,Ac]
 ·rintro i hi t ⟨left,ends,rfl,hb⟩
  have hlit:=hS.lit (i:=i) (by simpa using hi)
  subst hlit
  have hg:(ss.map De)[i]? =some (.agg [.lit 1 (ss[i].parts.map ye),i64 ss[i].first]):=by simp[hi,De]
  have hdr:ss.drop i=ss[i]::ss.drop (i+1):=List.drop_eq_getElem_cons hi
  have hJ:H++PE (ss.take (i+1))=H++PE (ss.take i)++[.box [.pv (.lit 1 (ss[i].parts.map ye)),.pv (i64 ss[i].first)]]:=by
   rw[List.take_succ_eq_append_getElem hi,PE,List.map_append,List.append_assoc];rfl
  rw[hdr,Xg] at hb
  cases hbit:gz bits i with
  |false=>
   rw[hbit] at hb
   refine .inl ⟨_,UT call _ _ x bits left d ends i ss.length hi (by simp) hw _ _ hg hbit,left,ends,by rw[hJ],hb⟩
  |true=>
   have hdl:=Aa i ss[i] (by simp[hi]) hbit
   have hp:(ss[i].parts.map ye)[d]? =some (.lit 2 (Jd ss[i].parts[d])):=by simp[hdl,ye]
   have hc:=yO (hsz ss[i] (List.getElem_mem hi) ss[i].parts[d] (List.getElem_mem hdl)) x
   have hat:Vs ss[i] d x=VN ss[i].parts[d] x:=by simp[Vs,hdl]
   rw[hbit,hat,Bool.true_and] at hb
   cases hh:VN ss[i].parts[d] x with
   |false=>
    rw[hh] at hb hc
    refine .inl ⟨_,ZU call _ _ x bits left d ends i ss.length hi (by simp) hw _ _ hg hbit _ hp (by simpa using hdl) hd hc,left,ends,by rw[hJ],hb⟩
   |true=>
    rw[hh] at hb hc
    refine .inl ⟨_,QW call _ _ x bits left d ends i ss.length hi (by simp) hw _ _ hg hbit _ hp (by simpa using hdl) hd hc,_,_,by rw[hJ],?_⟩
    rw[hb]
    simp
 ·rintro t ⟨left,ends,rfl,hb⟩
  rw[List.drop_length] at hb
  simp only[Xg] at hb
  refine⟨.exit 0,_,?_,rfl,rfl,rfl⟩
  rw[hb,List.take_length]
  have e1:decide ((ss.length:Int) < (ss.length:Int))=false:=Fa (by omega)
  simp -implicitDefEqProofs only[SP,SA,SQ,sevalprocAttr,ma,Eb,e1,Tw]
end
end Go.AM.B1
namespace Go.AM.B1
open Go.AM
abbrev Al:=Nat×Int
def Hh (a:Al):PV:= .agg [i64 a.1,u32 a.2]
def IB (l:List Al) (k:Nat):List (PV×PV):=(l.zipIdx k).map fun p=>(Hh p.1,i64 p.2)
theorem tA (a:Al) (l:List Al) (k:Nat):IB (a::l) k=(Hh a,i64 k)::IB l (k+1):=rfl
theorem AG (a:Al):∀ (l:List Al) (k:Nat),IB (l++[a]) k=IB l k++[(Hh a,i64 (k+l.length:Nat))]
 | [],k=>by simp[IB]
 |b::l,k=>by rw[List.cons_append,tA,AG a l (k+1),tA];simp;omega
theorem ZB (a b:Al):Fk (.row [1,1]) (Hh a) (Hh b)=some (decide (a=b)):=by
 obtain⟨a1,a2⟩:=a;obtain⟨b1,b2⟩:=b
 simp only[Hh,Fk,Gi,sr,if_true,Option.bind_some,Option.map_some,Bool.and_true,Prod.mk.injEq,Bool.decide_and]
 congr 1
 rw[Bool.eq_iff_iff]
 simp
 intro _
 omega
def ql (a:Al):List Al→Nat→Option Nat
 | [],_=>none
 |b::l,k=>if a=b then some k else ql a l (k+1)
theorem aH (a:Al):∀ (l:List Al) (k j:Nat),Ml (.row [1,1]) (Hh a) (IB l k) j=some ((ql a l k).map fun i=>(j+(i - k),i64 i)):=by
 intro l
 induction l with
 |nil=>intro k j;rfl
 |cons b l ih=>
  intro k j
  rw[tA,Ml,ZB]
  simp only[Option.bind_some,ql]
  by_cases h:a=b
  ·simp[h]
  ·rw[if_neg h,ih]
   simp only[h,decide_false,Bool.false_eq_true,if_false,Option.some.injEq]
   cases hi:ql a l (k+1) with
   |none=>rfl
   |some i=>
    have:k+1≤i:=by
     clear ih
     induction l generalizing k with
     |nil=>simp[ql] at hi
     |cons c l ihl=>
      simp only[ql] at hi
      split at hi
      ·injection hi with hi;omega
      ·have:=ihl (k+1) hi;omega
    simp only[Option.map_some,Option.some.injEq,Prod.mk.injEq,and_true]
    omega
abbrev oj (R0 R1:ba) (S:PV) (nl:Bool) (sets:List Al) (rows:ba) (n:Nat) (T:List ba):List ba:=
 R0::R1:: .map (IB sets 0):: .box [.pv S,.mp 2,.uq 4 nl 2 (sets.map Hh),.own 5 n]:: .tok 2 sets.length nl::rows::T
section
variable (call:Xa) (R0 R1:ba) (S:PV) (nl:Bool) (sets:List Al) (rows:ba) (n:Nat) (T:List ba) (a:Al)
theorem yV {i:Nat} (h:ql a sets 0=some i):
 og call Ud [.ptr 3 0,.pv (Hh a)] (oj R0 R1 S nl sets rows n T)=some (.pv (.oc [i64 i,.bool true]),oj R0 R1 S nl sets rows n T):=by
 have hf:=aH a sets 0 0
 rw[h] at hf
 simp only[Option.map_some] at hf
 have hk:(Fk (.row [1,1]) (Hh a) (Hh a)).isSome=true:=by rw[ZB];rfl
 simp only[Hh] at hf hk
 simp -implicitDefEqProofs only[SP,SA,SQ,sevalprocAttr,Hh,Ud,hf,eq_true hk]
theorem iS (h:ql a sets 0=none) (hl:sets.length=64):
 og call Ud [.ptr 3 0,.pv (Hh a)] (oj R0 R1 S nl sets rows n T)=some (.pv (.oc [i64 0,.bool false]),oj R0 R1 S nl sets rows n T):=by
 have hf:=aH a sets 0 0
 rw[h] at hf
 simp only[Option.map_none] at hf
 have hk:(Fk (.row [1,1]) (Hh a) (Hh a)).isSome=true:=by rw[ZB];rfl
 have e1:(((sets.map Hh).length:Int)==64)=true:=by simp[hl]
 simp only[Hh] at hf hk
 simp -implicitDefEqProofs only[SP,SA,SQ,sevalprocAttr,Ud,Hh,hf,eq_true hk,e1]
theorem VM (h:ql a sets 0=none) (hl:sets.length < 64):
 og call Ud [.ptr 3 0,.pv (Hh a)] (oj R0 R1 S nl sets rows n T)=some (.pv (.oc [i64 sets.length,.bool true]),oj R0 R1 S false (sets++[a]) rows n T):=by
 have hf:=aH a sets 0 0
 rw[h] at hf
 simp only[Option.map_none] at hf
 have hk:(Fk (.row [1,1]) (Hh a) (Hh a)).isSome=true:=by rw[ZB];rfl
 have e1:((sets.length:Int)==64)=false:=Rh (by omega)
 have hp:=AG a sets 0
 rw[Nat.zero_add] at hp
 have q1:mb (sets.length+1) 16:=by unfold mb;omega
 have hlen:(sets.map Hh).length=sets.length:=by simp
 have hlen2:(sets++[a]).length=sets.length+1:=by simp
 have hmap:(sets++[a]).map Hh=sets.map Hh++[Hh a]:=by simp
 unfold oj
 rw[hp,hlen2,hmap]
 simp only[Hh] at hf hk ⊢
 simp -implicitDefEqProofs only[SP,SA,SQ,sevalprocAttr,Ud,hf,eq_true hk,e1,hlen,eq_true q1,Qh,AV.aC,AV.Fo]
end
end Go.AM.B1
namespace Go.AM.B1
open Go.AM
theorem dm (n:Nat) (cs:List AV):oa n (.box cs)=(Pa (AV.cut n deep) cs).map .box:=rfl
theorem fm (n:Nat) (es:List (PV×PV)):oa n (.map es)=some (.map es):=rfl
theorem Ct (n sz:Nat) (ag:Bool) (cs:List AV) (fl:Nat) (nl:Bool):oa n (.seq sz ag cs fl nl)=if cs.all (AV.Te n deep)=true then some (.seq sz ag cs fl nl) else none:=rfl
theorem Yl (n sz m:Nat) (nl:Bool):oa n (.tok sz m nl)=some (.tok sz m nl):=rfl
def vg (ss:List mc) (a:Al) (x:Int) (sets:List Al):Option (List Al×Int):=
 if (Xg x a.2 a.1 0 ss (0,false)).1=0 then some (sets,-2)
 else if (Xg x a.2 a.1 0 ss (0,false)).2=true then some (sets,-1)
 else match ql (a.1+1,(Xg x a.2 a.1 0 ss (0,false)).1) sets 0 with
  |some k=>some (sets,(k:Int))
  |none=>if sets.length < 64 then some (sets++[(a.1+1,(Xg x a.2 a.1 0 ss (0,false)).1)],(sets.length:Int)) else none
inductive Ft (k:Nat) (v:AV) (o:ba):Option (Ex×St)→Prop
 |mk (s:St):s.env.get k=v→s.H[0]? =some o→Ft k v o (some (.ret,s))
theorem UD {k:Nat} {v:AV} {o:ba} {s:St}:Ft k v o (some (.ret,s))=(s.env.get k=v∧s.H[0]? =some o):=
 propext ⟨fun h=>by cases h with | mk _ h h'=>exact⟨h,h'⟩,fun h=> .mk s h.1 h.2⟩
theorem Fq {k:Nat} {v:AV} {o:ba} {r:Option (Ex×St)} (h:Ft k v o r):∃ t,r=some (.ret,t)∧t.env.get k=v∧t.H[0]? =some o:=by
 cases h with | mk s h h'=>exact⟨s,rfl,h,h'⟩
def Ja (l:List Int):List AV:=l.map fun n=> .pv (i64 n)
theorem Li (l:List Int) (x:Nat) (v:Int):(Ja l).set x (.pv (i64 v))=Ja (l.set x v):=by simp[Ja,List.map_set]
theorem ib (l:List Int):(Ja l).length=l.length:=by simp[Ja]
theorem pq (n d:Nat) (l:List Int):Pa (AV.cut n d) (Ja l)=some (Ja l):=by
 induction l with
 |nil=>rfl
 |cons a l ih=>simp only[Ja,List.map_cons,Pa,Ha,Option.bind_some] at ih ⊢;rw[ih];rfl
abbrev Ql (i x:Int):Tr:=(((Tr.lf.set 30 (.pv (i64 x))).set 4 (.ptr 6 0)).set 3 (.pv (i64 i))).set 0 (.ptr 3 0)
section
variable (R0 R1:ba) (S:PV) (nl:Bool) (sets:List Al) (rows:ba) (n:Nat) (row:List Int) (ss:List mc) (i x:Nat) (a:Al)
 (h0:oa 7 R0=some R0) (h1:oa 7 R1=some R1) (hr:oa 7 rows=some rows) (hrow:row.length=256) (hx:x < 256)
 (hi:i < sets.length) (ha:(sets.map Hh)[i]? =some (.agg [i64 a.1,u32 a.2])) (had:a.1 < 4611686018427387904)
 (hS:Th 2 S (ss.map De)) (hw:ss.length≤maxLen)
 (Aa:∀ i s,ss[i]? =some s→gz a.2 i=true→a.1 < s.parts.length) (hsz:∀ s∈ss,∀ l∈s.parts,l.length * 16≤140737488355328)
include h0 h1 hr hrow hx hi ha had hS hw Aa hsz
theorem TO (hb:(Xg x a.2 a.1 0 ss (0,false)).1=0):
 Mc (Ca Da 7) [0,3,4,30] Ka 7 ⟨Ql i x,oj R0 R1 S nl sets rows n [.box (Ja row)]⟩=
  some (.norm,⟨Ql i (x+1:Nat),oj R0 R1 S nl sets rows n [.box (Ja (row.set x (-2)))]⟩):=by
 have e1:decide ((x:Int) < 256)=true:=Ea (by omega)
 have hlen:(sets.map Hh).length=sets.length:=by simp
 have hq:Ga (i:Int) sets.length:=by unfold Ga;omega
 have hq2:Ga (x:Int) 256:=by unfold Ga;omega
 have t1:((i:Int)).toNat=i:=by simp
 have t3:((x:Int)).toNat=x:=by simp
 have t2:=Va (i:=x) (n:=256) hx (by unfold maxLen;omega)
 have hbeh:=Fp (Ca Da 6) (oj R0 R1 S nl sets rows n [.box (Ja row)]) 3 _ S ss x a.2 a.1 rfl hS hw had Aa hsz
 rw[hb] at hbeh
 have hle:x+1≤(Ja row).length:=by rw[ib];omega
 have hz:(((0:Nat)+x+1)≤(Ja row).length)=True:=by simp only[eq_iff_iff,iff_true];omega
 simp only[oj,List.cons_append,List.nil_append] at hbeh
 generalize (Xg x a.2 a.1 0 ss (0,false)).2=ends at *
 simp -implicitDefEqProofs only[SP,SA,SQ,sevalprocAttr,Mc,ma,Ka,Da,e1,hlen,eq_true hq,eq_true hq2,t1,t2,t3,ha,hbeh,hz,eq_true hle,Li,wa,ga,za,dm,fm,Yl,Ha,pq,AV.cut,Ac,h0,h1,hr,Ql,oj]
theorem TR (hb:(Xg x a.2 a.1 0 ss (0,false)).1≠0) (hb2:(Xg x a.2 a.1 0 ss (0,false)).2=true):
 Mc (Ca Da 7) [0,3,4,30] Ka 7 ⟨Ql i x,oj R0 R1 S nl sets rows n [.box (Ja row)]⟩=
  some (.norm,⟨Ql i (x+1:Nat),oj R0 R1 S nl sets rows n [.box (Ja (row.set x (-1)))]⟩):=by
 have e1:decide ((x:Int) < 256)=true:=Ea (by omega)
 have hlen:(sets.map Hh).length=sets.length:=by simp
 have hq:Ga (i:Int) sets.length:=by unfold Ga;omega
 have hq2:Ga (x:Int) 256:=by unfold Ga;omega
 have t1:((i:Int)).toNat=i:=by simp
 have t3:((x:Int)).toNat=x:=by simp
 have t2:=Va (i:=x) (n:=256) hx (by unfold maxLen;omega)
 have hbeh:=Fp (Ca Da 6) (oj R0 R1 S nl sets rows n [.box (Ja row)]) 3 _ S ss x a.2 a.1 rfl hS hw had Aa hsz
 rw[hb2] at hbeh
 have hle:x+1≤(Ja row).length:=by rw[ib];omega
 have hz:(((0:Nat)+x+1)≤(Ja row).length)=True:=by simp only[eq_iff_iff,iff_true];omega
 simp only[oj,List.cons_append,List.nil_append] at hbeh
 have e4:=Rh hb
 generalize (Xg x a.2 a.1 0 ss (0,false)).1=left at *
 simp -implicitDefEqProofs only[SP,SA,SQ,sevalprocAttr,Mc,ma,Ka,Da,e1,hlen,eq_true hq,eq_true hq2,t1,t2,t3,ha,hbeh,e4,hz,eq_true hle,Li,wa,ga,za,dm,fm,Yl,Ha,pq,AV.cut,Ac,h0,h1,hr,Ql,oj]
theorem mR (hb:(Xg x a.2 a.1 0 ss (0,false)).1≠0) (hb2:(Xg x a.2 a.1 0 ss (0,false)).2=false) {k:Nat} (hk:ql (a.1+1,(Xg x a.2 a.1 0 ss (0,false)).1) sets 0=some k):
 Mc (Ca Da 7) [0,3,4,30] Ka 7 ⟨Ql i x,oj R0 R1 S nl sets rows n [.box (Ja row)]⟩=
  some (.norm,⟨Ql i (x+1:Nat),oj R0 R1 S nl sets rows n [.box (Ja (row.set x k))]⟩):=by
 have e1:decide ((x:Int) < 256)=true:=Ea (by omega)
 have hlen:(sets.map Hh).length=sets.length:=by simp
 have hq:Ga (i:Int) sets.length:=by unfold Ga;omega
 have hq2:Ga (x:Int) 256:=by unfold Ga;omega
 have t1:((i:Int)).toNat=i:=by simp
 have t3:((x:Int)).toNat=x:=by simp
 have t2:=Va (i:=x) (n:=256) hx (by unfold maxLen;omega)
 have hbeh:=Fp (Ca Da 6) (oj R0 R1 S nl sets rows n [.box (Ja row)]) 3 _ S ss x a.2 a.1 rfl hS hw had Aa hsz
 rw[hb2] at hbeh
 have hle:x+1≤(Ja row).length:=by rw[ib];omega
 have hz:(((0:Nat)+x+1)≤(Ja row).length)=True:=by simp only[eq_iff_iff,iff_true];omega
 simp only[oj,List.cons_append,List.nil_append] at hbeh
 have e4:=Rh hb
 have t5:IntKind.i64.wrap ((a.1:Int)+1)=((a.1+1:Nat):Int):=Ba (by omega)
 have hmet:=yV (Ca Da 6) R0 R1 S nl sets rows n (.box (Ja row)::PE ss) (a.1+1,(Xg x a.2 a.1 0 ss (0,false)).1) hk
 simp only[oj,Hh] at hmet
 generalize (Xg x a.2 a.1 0 ss (0,false)).1=left at *
 simp -implicitDefEqProofs only[SP,SA,SQ,sevalprocAttr,Mc,ma,Ka,Da,e1,hlen,eq_true hq,eq_true hq2,t1,t2,t3,ha,hbeh,hmet,t5,e4,hz,eq_true hle,Li,wa,ga,za,dm,fm,Yl,Ha,pq,AV.cut,Ac,h0,h1,hr,Ql,oj]
theorem YQ (hb:(Xg x a.2 a.1 0 ss (0,false)).1≠0) (hb2:(Xg x a.2 a.1 0 ss (0,false)).2=false) (hk:ql (a.1+1,(Xg x a.2 a.1 0 ss (0,false)).1) sets 0=none) (hl:sets.length < 64):
 Mc (Ca Da 7) [0,3,4,30] Ka 7 ⟨Ql i x,oj R0 R1 S nl sets rows n [.box (Ja row)]⟩=
  some (.norm,⟨Ql i (x+1:Nat),oj R0 R1 S false (sets++[(a.1+1,(Xg x a.2 a.1 0 ss (0,false)).1)]) rows n [.box (Ja (row.set x (sets.length:Int)))]⟩):=by
 have e1:decide ((x:Int) < 256)=true:=Ea (by omega)
 have hlen:(sets.map Hh).length=sets.length:=by simp
 have hq:Ga (i:Int) sets.length:=by unfold Ga;omega
 have hq2:Ga (x:Int) 256:=by unfold Ga;omega
 have t1:((i:Int)).toNat=i:=by simp
 have t3:((x:Int)).toNat=x:=by simp
 have t2:=Va (i:=x) (n:=256) hx (by unfold maxLen;omega)
 have hbeh:=Fp (Ca Da 6) (oj R0 R1 S nl sets rows n [.box (Ja row)]) 3 _ S ss x a.2 a.1 rfl hS hw had Aa hsz
 rw[hb2] at hbeh
 have hle:x+1≤(Ja row).length:=by rw[ib];omega
 have hz:(((0:Nat)+x+1)≤(Ja row).length)=True:=by simp only[eq_iff_iff,iff_true];omega
 simp only[oj,List.cons_append,List.nil_append] at hbeh
 have e4:=Rh hb
 have t5:IntKind.i64.wrap ((a.1:Int)+1)=((a.1+1:Nat):Int):=Ba (by omega)
 have hmet:=VM (Ca Da 6) R0 R1 S nl sets rows n (.box (Ja row)::PE ss) (a.1+1,(Xg x a.2 a.1 0 ss (0,false)).1) hk hl
 simp only[oj,Hh] at hmet ⊢
 generalize (Xg x a.2 a.1 0 ss (0,false)).1=left at *
 simp -implicitDefEqProofs only[SP,SA,SQ,sevalprocAttr,Mc,ma,Ka,Da,e1,hlen,eq_true hq,eq_true hq2,t1,t2,t3,ha,hbeh,hmet,t5,e4,hz,eq_true hle,Li,wa,ga,za,dm,fm,Yl,Ha,pq,AV.cut,Ac,h0,h1,hr,Ql,oj]
end
section
variable (R0 R1:ba) (S:PV) (nl:Bool) (sets:List Al) (rows:ba) (n:Nat) (row:List Int) (ss:List mc) (i x:Nat) (a:Al)
 (hrow:row.length=256) (hx:x < 256)
 (hi:i < sets.length) (ha:(sets.map Hh)[i]? =some (.agg [i64 a.1,u32 a.2])) (had:a.1 < 4611686018427387904)
 (hS:Th 2 S (ss.map De)) (hw:ss.length≤maxLen)
 (Aa:∀ i s,ss[i]? =some s→gz a.2 i=true→a.1 < s.parts.length) (hsz:∀ s∈ss,∀ l∈s.parts,l.length * 16≤140737488355328)
include hrow hx hi ha had hS hw Aa hsz
theorem qP (hb:(Xg x a.2 a.1 0 ss (0,false)).1≠0) (hb2:(Xg x a.2 a.1 0 ss (0,false)).2=false) (hk:ql (a.1+1,(Xg x a.2 a.1 0 ss (0,false)).1) sets 0=none) (hl:sets.length=64):
 Ft 2 (.pv (.bool false)) R0 (Mc (Ca Da 7) [0,3,4,30] Ka 7 ⟨Ql i x,oj R0 R1 S nl sets rows n [.box (Ja row)]⟩):=by
 have e1:decide ((x:Int) < 256)=true:=Ea (by omega)
 have hlen:(sets.map Hh).length=sets.length:=by simp
 have hq:Ga (i:Int) sets.length:=by unfold Ga;omega
 have hq2:Ga (x:Int) 256:=by unfold Ga;omega
 have t1:((i:Int)).toNat=i:=by simp
 have t3:((x:Int)).toNat=x:=by simp
 have t2:=Va (i:=x) (n:=256) hx (by unfold maxLen;omega)
 have hbeh:=Fp (Ca Da 6) (oj R0 R1 S nl sets rows n [.box (Ja row)]) 3 _ S ss x a.2 a.1 rfl hS hw had Aa hsz
 rw[hb2] at hbeh
 have hle:x+1≤(Ja row).length:=by rw[ib];omega
 have hz:(((0:Nat)+x+1)≤(Ja row).length)=True:=by simp only[eq_iff_iff,iff_true];omega
 simp only[oj,List.cons_append,List.nil_append] at hbeh
 have e4:=Rh hb
 have t5:IntKind.i64.wrap ((a.1:Int)+1)=((a.1+1:Nat):Int):=Ba (by omega)
 have hmet:=iS (Ca Da 6) R0 R1 S nl sets rows n (.box (Ja row)::PE ss) (a.1+1,(Xg x a.2 a.1 0 ss (0,false)).1) hk hl
 simp only[oj,Hh] at hmet
 generalize (Xg x a.2 a.1 0 ss (0,false)).1=left at *
 simp -implicitDefEqProofs only[SP,SA,SQ,sevalprocAttr,Mc,ma,Ka,Da,e1,hlen,eq_true hq,eq_true hq2,t1,t2,t3,ha,hbeh,hmet,t5,e4,UD,hz,eq_true hle,Li,wa,Ql,oj]
end
end Go.AM.B1
namespace Go.AM.B1
open Go.AM
def rk (ss:List mc) (a:Al):List Nat→List Al×List Int→Option (List Al×List Int)
 | [],r=>some r
 |x::xs,r=>match vg ss a x r.1 with
  |some p=>rk ss a xs (p.1,r.2.set x p.2)
  |none=>none
theorem Wr {ss:List mc} {a:Al} {x:Nat} {xs:List Nat} {r:List Al×List Int} (h:vg ss a x r.1=none):rk ss a (x::xs) r=none:=by
 rw[rk,h]
theorem Ys {ss:List mc} {a:Al} {x:Nat} {xs:List Nat} {r:List Al×List Int} {p:List Al×Int} (h:vg ss a x r.1=some p):rk ss a (x::xs) r=rk ss a xs (p.1,r.2.set x p.2):=by
 rw[rk,h]
theorem bq {n x:Nat} (h:x < n):(List.range n).drop x=x::(List.range n).drop (x+1):=by
 rw[List.drop_eq_getElem_cons (by simpa using h)];simp
theorem VA {ss:List mc} {a:Al} {x:Int} {sets:List Al} {r:List Al×Int} (h:vg ss a x sets=some r) (hl:sets.length≤64):r.1.length≤64∧∃ t,r.1=sets++t:=by
 unfold vg at h
 split at h
 ·injection h with h;subst h;exact⟨hl,[],by simp⟩
 ·split at h
  ·injection h with h;subst h;exact⟨hl,[],by simp⟩
  ·split at h
   ·injection h with h;subst h;exact⟨hl,[],by simp⟩
   ·split at h
    ·injection h with h;subst h;exact⟨by simp;omega,_,rfl⟩
    ·cases h
section
variable (R0 R1:ba) (S:PV) (rows:ba) (n:Nat) (ss:List mc)
 (h0:oa 7 R0=some R0) (h1:oa 7 R1=some R1) (hr:oa 7 rows=some rows)
 (hS:Th 2 S (ss.map De)) (hw:ss.length≤maxLen)
 (hsz:∀ s∈ss,∀ l∈s.parts,l.length * 16≤140737488355328)
include h0 h1 hr hS hw hsz
theorem zM {nl:Bool} {sets:List Al} {row:List Int} {i x:Nat} {a:Al} (hrow:row.length=256) (hx:x < 256) (ha:sets[i]? =some a) (had:a.1 < 4611686018427387904) (hl:sets.length≤64)
 (Aa:∀ i s,ss[i]? =some s→gz a.2 i=true→a.1 < s.parts.length):
 (∀ r,vg ss a x sets=some r→∃ nl',Mc (Ca Da 7) [0,3,4,30] Ka 7 ⟨Ql i x,oj R0 R1 S nl sets rows n [.box (Ja row)]⟩=
  some (.norm,⟨Ql i (x+1:Nat),oj R0 R1 S nl' r.1 rows n [.box (Ja (row.set x r.2))]⟩))∧
 (vg ss a x sets=none→Ft 2 (.pv (.bool false)) R0 (Mc (Ca Da 7) [0,3,4,30] Ka 7 ⟨Ql i x,oj R0 R1 S nl sets rows n [.box (Ja row)]⟩)):=by
 have hi:i < sets.length:=(List.getElem?_eq_some_iff.1 ha).1
 have ha':(sets.map Hh)[i]? =some (.agg [i64 a.1,u32 a.2]):=by rw[List.getElem?_map,ha];rfl
 by_cases hb:(Xg x a.2 a.1 0 ss (0,false)).1=0
 ·have hst:=(show vg ss a x sets=some (sets,-2) by unfold vg;rw[if_pos hb])
  rw[hst]
  exact⟨fun r e=>by injection e with e;subst e;exact⟨nl,TO R0 R1 S nl sets rows n row ss i x a h0 h1 hr hrow hx hi ha' had hS hw Aa hsz hb⟩,fun e=>by cases e⟩
 by_cases hb2:(Xg x a.2 a.1 0 ss (0,false)).2=true
 ·have hst:=(show vg ss a x sets=some (sets,-1) by unfold vg;rw[if_neg hb,if_pos hb2])
  rw[hst]
  exact⟨fun r e=>by injection e with e;subst e;exact⟨nl,TR R0 R1 S nl sets rows n row ss i x a h0 h1 hr hrow hx hi ha' had hS hw Aa hsz hb hb2⟩,fun e=>by cases e⟩
 have hb3:(Xg x a.2 a.1 0 ss (0,false)).2=false:=by simpa using hb2
 cases hk:ql (a.1+1,(Xg x a.2 a.1 0 ss (0,false)).1) sets 0 with
 |some k=>
  have hst:=(show vg ss a x sets=some (sets,(k:Int)) by unfold vg;rw[if_neg hb,if_neg hb2,hk])
  rw[hst]
  exact⟨fun r e=>by injection e with e;subst e;exact⟨nl,mR R0 R1 S nl sets rows n row ss i x a h0 h1 hr hrow hx hi ha' had hS hw Aa hsz hb hb3 hk⟩,fun e=>by cases e⟩
 |none=>
  by_cases hlt:sets.length < 64
  ·have hst:=(show vg ss a x sets=some (sets++[(a.1+1,(Xg x a.2 a.1 0 ss (0,false)).1)],(sets.length:Int)) by unfold vg;rw[if_neg hb,if_neg hb2,hk];simp only[if_pos hlt])
   rw[hst]
   exact⟨fun r e=>by injection e with e;subst e;exact⟨false,YQ R0 R1 S nl sets rows n row ss i x a h0 h1 hr hrow hx hi ha' had hS hw Aa hsz hb hb3 hk hlt⟩,fun e=>by cases e⟩
  ·have hst:=(show vg ss a x sets=none by unfold vg;rw[if_neg hb,if_neg hb2,hk];simp only[if_neg hlt])
   rw[hst]
   exact⟨fun r e=>(by cases e),fun _=>qP R0 R1 S nl sets rows n row ss i x a hrow hx hi ha' had hS hw Aa hsz hb hb3 hk (by omega)⟩
theorem MR {nl:Bool} {sets:List Al} {row:List Int} {i:Nat} {a:Al} (hrow:row.length=256) (ha:sets[i]? =some a) (had:a.1 < 4611686018427387904) (hl:sets.length≤64)
 (Aa:∀ i s,ss[i]? =some s→gz a.2 i=true→a.1 < s.parts.length):
 (∀ r,rk ss a (List.range 256) (sets,row)=some r→∃ nl',fb (ma (ta (Ca Da 7) Ka) (ga 7 [0,3,4,30])) qa ⟨Ql i 0,oj R0 R1 S nl sets rows n [.box (Ja row)]⟩=
  some (.exit 2,⟨(Ql i 256).set 31 (.pv (.bool false)),oj R0 R1 S nl' r.1 rows n [.box (Ja r.2)]⟩)∧r.1.length≤64∧r.2.length=256∧∃ t,r.1=sets++t)∧
 (rk ss a (List.range 256) (sets,row)=none→Ft 2 (.pv (.bool false)) R0 (fb (ma (ta (Ca Da 7) Ka) (ga 7 [0,3,4,30])) qa ⟨Ql i 0,oj R0 R1 S nl sets rows n [.box (Ja row)]⟩)):=by
 generalize hxs:List.range 256=xs
 have key:=Ck (g:=Mc (Ca Da 7) [0,3,4,30] Ka 7)
  (fun x t=>∃ nl' sets' row',t=⟨Ql i x,oj R0 R1 S nl' sets' rows n [.box (Ja row')]⟩∧rk ss a xs (sets,row)=rk ss a (xs.drop x) (sets',row')∧sets'.length≤64∧row'.length=256∧∃ t,sets'=sets++t)
  (fun ex t=>(∃ r,ex= .exit 2∧rk ss a xs (sets,row)=some r∧∃ nl',t=⟨(Ql i 256).set 31 (.pv (.bool false)),oj R0 R1 S nl' r.1 rows n [.box (Ja r.2)]⟩∧r.1.length≤64∧r.2.length=256∧∃ t,r.1=sets++t)∨
   (ex= .ret∧rk ss a xs (sets,row)=none∧t.env.get 2= .pv (.bool false)∧t.H[0]? =some R0))
  qa 256 0 ⟨Ql i (0:Nat),oj R0 R1 S nl sets rows n [.box (Ja row)]⟩ (by unfold qa;omega) (by omega) ⟨nl,sets,row,rfl,rfl,hl,hrow,[],by simp⟩ ?_ ?_
 ·obtain⟨ex,t,h,_,hq⟩:=key
  have h':fb (ma (ta (Ca Da 7) Ka) (ga 7 [0,3,4,30])) qa ⟨Ql i 0,oj R0 R1 S nl sets rows n [.box (Ja row)]⟩=some (ex,t):=h
  rw[h']
  rcases hq with⟨r,rfl,hr',nl',rfl,q1,q2,q3⟩ | ⟨rfl,hr',hg,hg2⟩
  ·refine⟨fun r2 e=> ?_,fun e=> ?_⟩
   ·rw[hr'] at e;injection e with e;subst e;exact⟨nl',rfl,q1,q2,q3⟩
   ·rw[hr'] at e;cases e
  ·refine⟨fun r2 e=> ?_,fun _=> .mk _ hg hg2⟩
   rw[hr'] at e;cases e
 ·rintro x hx t ⟨nl',sets',row',rfl,hrs,hl',hrow',tl,hts⟩
  have ha':sets'[i]? =some a:=by
   rw[hts,List.getElem?_append_left (List.getElem?_eq_some_iff.1 ha).1];exact ha
  have hd:=bq hx
  rw[hxs] at hd
  have hsr:=zM R0 R1 S rows n ss h0 h1 hr hS hw hsz (nl:=nl') hrow' hx ha' had hl' Aa
  rw[hd] at hrs
  cases hst:vg ss a x sets' with
  |none=>
   rw[Wr hst] at hrs
   obtain⟨t,g1,g2,g3⟩:=Fq (hsr.2 hst)
   exact .inr ⟨.ret,t,g1,rfl,.inr ⟨rfl,hrs,g2,g3⟩⟩
  |some r=>
   rw[Ys hst] at hrs
   obtain⟨nl2,g1⟩:=hsr.1 r hst
   obtain⟨k1,t2,k2⟩:=VA hst hl'
   exact .inl ⟨_,g1,nl2,r.1,row'.set x r.2,rfl,hrs,k1,by simpa using hrow',tl++t2,by rw[k2,hts,List.append_assoc]⟩
 ·rintro t ⟨nl',sets',row',rfl,hrs,hl',hrow',tl,hts⟩
  rw[List.drop_eq_nil_of_le (by rw[← hxs,List.length_range];exact Nat.le_refl _)] at hrs
  refine⟨.exit 2,_,?_,rfl,.inl ⟨(sets',row'),rfl,hrs,nl',rfl,hl',hrow',tl,hts⟩⟩
  have e1:decide (((256:Nat):Int) < 256)=false:=by decide
  simp -implicitDefEqProofs only[SP,SA,SQ,sevalprocAttr,Mc,ma,Ka,e1,Ql,oj]
end
end Go.AM.B1
namespace Go.AM.B1
open Go.AM
def Hg (rs:List (List Int)):ba:= .seq 256 true (rs.flatMap Ja) 0 rs.isEmpty
theorem vt (l:List Int):Ja l=(l.map i64).map .pv:=by simp[Ja]
theorem Qs (l:List Int):Vd (Ja l)=some (l.map i64):=by
 rw[vt]
 induction l with
 |nil=>rfl
 |cons a l ih=>simp only[List.map_cons,Vd,ih,Option.map_some]
theorem gD (l:List Int):(Ja l).all AV.one=true:=by
 induction l with
 |nil=>rfl
 |cons a l ih=>simp only[Ja,List.map_cons,List.all_cons,AV.one,Bool.true_and] at ih ⊢;exact ih
theorem sW:List.map AV.pv (List.replicate 256 (PV.int .i64 0))=Ja (List.replicate 256 0):=by
 simp only[Ja,List.map_replicate]
theorem Tx {α:Type}:∀ (vs cs pre:List α),cs.length=vs.length→na (pre++cs) pre.length vs=pre++vs
 | [],cs,pre,h=>by simp at h;subst h;rfl
 |v::vs,c::cs,pre,h=>by
  rw[na]
  have h1:(pre++c::cs).set pre.length v=(pre++[v])++cs:=by
   rw[List.set_append_right _ _ (Nat.le_refl _)];simp
  rw[h1]
  have:=Tx vs cs (pre++[v]) (by simpa using h)
  simp only[List.length_append,List.length_cons,List.length_nil,Nat.zero_add] at this
  rw[this];simp
 |_::_,[],_,h=>by simp at h
theorem Mv (n d:Nat) (rs:List (List Int)):(rs.flatMap Ja).all (AV.Te n d)=true:=by
 rw[List.all_eq_true]
 intro v hv
 rw[List.mem_flatMap] at hv
 obtain⟨r,_,hv⟩:=hv
 simp only[Ja,List.mem_map] at hv
 obtain⟨x,_,rfl⟩:=hv
 cases d <;> rfl
theorem jD:∀ {rs:List (List Int)},(∀ r∈rs,r.length=256)→(rs.flatMap Ja).length=rs.length * 256
 | [],_=>rfl
 |r::rs,h=>by
  have:=jD (rs:=rs) (fun x hx=>h x (by simp[hx]))
  simp only[List.flatMap_cons,List.length_append,ib,h r (by simp),this,List.length_cons]
  omega
abbrev fA (i:Int):Tr:=(Tr.lf.set 3 (.pv (i64 i))).set 0 (.ptr 3 0)
section
variable (R0 R1:ba) (S:PV) (nl:Bool) (sets:List Al) (rs:List (List Int)) (ss:List mc) (i:Nat)
 (h0:oa 7 R0=some R0) (h1:oa 7 R1=some R1) (g0:oa 6 R0=some R0) (g1:oa 6 R1=some R1)
 (hi:i < sets.length) (hl:sets.length≤64) (hrl:rs.length≤64) (hrr:∀ r∈rs,r.length=256)
include h0 h1 g0 g1 hi hl hrl hrr
theorem XO (nl':Bool) (sets':List Al) (row:List Int) (hrow:row.length=256)
 (hrowL:fb (ma (ta (Ca Da 7) Ka) (ga 7 [0,3,4,30])) qa ⟨Ql i 0,oj R0 R1 S nl sets (Hg rs) rs.length [.box (Ja (List.replicate 256 0))]⟩=
  some (.exit 2,⟨(Ql i 256).set 31 (.pv (.bool false)),oj R0 R1 S nl' sets' (Hg rs) rs.length [.box (Ja row)]⟩)):
 Mc (Ca Da 7) [0,3] wb 6 ⟨fA i,oj R0 R1 S nl sets (Hg rs) rs.length []⟩=
  some (.norm,⟨fA (i+1:Nat),oj R0 R1 S nl' sets' (Hg (rs++[row])) (rs.length+1) []⟩):=by
 have hlen:(sets.map Hh).length=sets.length:=by simp
 have e1:decide ((i:Int) < (sets.length:Int))=true:=Ea (by omega)
 have t2:=Va (i:=i) (n:=64) (by omega) (by unfold maxLen;omega)
 have p0:((Ja row).length=256)=True:=by rw[ib,hrow];exact eq_self _
 have p1:(256≤(Ja row).length)=True:=by rw[ib,hrow];exact eq_true (Nat.le_refl _)
 have p2:List.take 256 (Ja row)=Ja row:=List.take_of_length_le (by rw[ib,hrow];exact Nat.le_refl _)
 have p3:=Qs row
 have p4:((row.map i64).length=256)=True:=by rw[List.length_map,hrow];exact eq_self _
 have p5:(256≤(Ja (List.replicate 256 0)).length)=True:=by rw[ib,List.length_replicate];exact eq_true (Nat.le_refl _)
 have p6:na (Ja (List.replicate 256 0)) 0 (Ja row)=Ja row:=by
  have:=Tx (Ja row) (Ja (List.replicate 256 0)) [] (by rw[ib,ib,hrow,List.length_replicate])
  rw[List.nil_append,List.nil_append] at this;exact this
 have p7:=gD row
 have p8:List.take 256 (row.map i64)=row.map i64:=List.take_of_length_le (by rw[List.length_map,hrow];exact Nat.le_refl _)
 have p9:(row.map i64).map AV.pv=Ja row:=(vt row).symm
 have q1:(rs.length * 256=(rs.flatMap Ja).length)=True:=by rw[jD hrr];exact eq_self _
 have q2:mb (rs.length+1) 2048:=by unfold mb;omega
 have q3:(rs++[row]).flatMap Ja=rs.flatMap Ja++Ja row:=by rw[List.flatMap_append,List.flatMap_cons,List.flatMap_nil,List.append_nil]
 have q4:(rs++[row]).isEmpty=false:=by cases rs <;> rfl
 have q5:=Mv 7 6 rs
 have q6:=Mv 6 6 (rs++[row])
 rw[q3] at q6
 simp only[Ql,oj,Hg,Int.cast_ofNat_Int] at hrowL
 unfold oj Hg
 rw[q3,q4]
 have hz2:=sW
 generalize hz:List.replicate 256 (0:Int)=zs at *
 simp -implicitDefEqProofs only[SP,SA,SQ,sevalprocAttr,-List.reduceReplicate,Mc,ma,wb,hlen,e1,Cb,ga,za,dm,fm,Yl,Ct,Ha,pq,AV.cut,Ac,h0,h1,g0,g1,fA,hz2,q5]
 rw[hrowL]
 simp -implicitDefEqProofs only[SP,SA,SQ,sevalprocAttr,-List.reduceReplicate,List.append_nil,hlen,t2,p0,p1,p2,p3,p4,p5,p6,p7,p8,p9,q1,eq_true q2,q5,q6,Qh,AV.aC,AV.Fo,hz2,cj,ga,za,dm,fm,Yl,Ct,Ha,pq,AV.cut,Ac,h0,h1,g0,g1]
end
end Go.AM.B1
namespace Go.AM.B1
open Go.AM
theorem wrap_u32 {n:Nat} (h:n < 4294967296):IntKind.u32.wrap (n:Int)=(n:Int):=by
 have e:IntKind.u32.wrap (n:Int)=(n:Int) % 4294967296:=by
  simp[IntKind.signed,IntKind.wrap,IntKind.bits]
 rw[e];omega
theorem tT {a b:Nat} (ha:a < 4294967296) (hb:b < 4294967296):(BitVec.ofInt IntKind.u32.bits (a:Int) &&& BitVec.ofInt IntKind.u32.bits (b:Int)).toNat=a &&& b:=by
 show (BitVec.ofInt 32 (a:Int) &&& BitVec.ofInt 32 (b:Int)).toNat=_
 rw[BitVec.toNat_and,BitVec.ofInt_natCast,BitVec.ofInt_natCast,BitVec.toNat_ofNat,BitVec.toNat_ofNat,Nat.mod_eq_of_lt ha,Nat.mod_eq_of_lt hb]
theorem WT {a b:Nat} (ha:a < 4294967296) (hb:b < 4294967296):(BitVec.ofInt IntKind.u32.bits (a:Int) ||| BitVec.ofInt IntKind.u32.bits (b:Int)).toNat=a ||| b:=by
 show (BitVec.ofInt 32 (a:Int) ||| BitVec.ofInt 32 (b:Int)).toNat=_
 rw[BitVec.toNat_or,BitVec.ofInt_natCast,BitVec.ofInt_natCast,BitVec.toNat_ofNat,BitVec.toNat_ofNat,Nat.mod_eq_of_lt ha,Nat.mod_eq_of_lt hb]
theorem wJ {n i:Nat} (hn:n < 4294967296) (hi:i < 32):gz (n:Int) i=n.testBit i:=by
 have hm:min i IntKind.u32.bits=i:=by show min i 32=i;omega
 have hf:(n:Int).fdiv (2 ^ i)=((n / 2 ^ i:Nat):Int):=by
  rw[show ((2:Int) ^ i)=((2 ^ i:Nat):Int) by push_cast;rfl]
  exact (Int.ofNat_fdiv n (2 ^ i)).symm
 have hle:n / 2 ^ i < 4294967296:=Nat.lt_of_le_of_lt (Nat.div_le_self _ _) hn
 have e:(BitVec.ofInt IntKind.u32.bits ((n / 2 ^ i:Nat):Int) &&& BitVec.ofInt IntKind.u32.bits 1).toNat=n / 2 ^ i % 2:=by
  have:=tT hle (show 1 < 4294967296 by decide)
  rw[Nat.and_one_is_mod] at this
  exact this
 unfold gz
 rw[hm,hf,e,wrap_u32 (by omega),Nat.testBit_eq_decide_div_mod_eq]
 rcases Nat.mod_two_eq_zero_or_one (n / 2 ^ i) with h | h <;> rw[h] <;> rfl
theorem fU {n i:Nat} (hn:n < 4294967296) (hi:i < 32):mX (n:Int) i=((n ||| 2 ^ i:Nat):Int):=by
 have hm:min i IntKind.u32.bits=i:=by show min i 32=i;omega
 have hp:2 ^ i < 4294967296:=by
  have:(2:Nat) ^ i < 2 ^ 32:=Nat.pow_lt_pow_right (by decide) hi
  simpa using this
 have h2:IntKind.u32.wrap (1 * 2 ^ i)=((2 ^ i:Nat):Int):=by
  rw[Int.one_mul,show ((2:Int) ^ i)=((2 ^ i:Nat):Int) by push_cast;rfl,wrap_u32 hp]
 unfold mX
 rw[hm,h2,WT hn hp,wrap_u32]
 exact Nat.or_lt_two_pow (n:=32) hn hp
def tt (x:Int) (bits d:Nat):Nat→List mc→Nat×Bool→Nat×Bool
 |_,[],acc=>acc
 |i,s::r,acc=>tt x bits d (i+1) r (if bits.testBit i&&Vs s d x then (acc.1 ||| 2 ^ i,acc.2||(s.parts.length==d+1)) else acc)
theorem BH {x:Int} {bits d:Nat}:∀ (ss:List mc) (i:Nat) (acc:Nat×Bool),i+ss.length≤32→acc.1 < 4294967296→(tt x bits d i ss acc).1 < 4294967296
 | [],i,acc,_,h=>h
 |s::r,i,acc,hl,h=>by
  rw[tt]
  refine BH r (i+1) _ (by simp only[List.length_cons] at hl;omega) ?_
  split
  ·refine Nat.or_lt_two_pow (n:=32) h ?_
   exact Nat.pow_lt_pow_right (by decide) (by simp only[List.length_cons] at hl;omega)
  ·exact h
theorem rM {x:Int} {bits d:Nat} (hb:bits < 4294967296):∀ (ss:List mc) (i:Nat) (acc:Nat×Bool),i+ss.length≤32→acc.1 < 4294967296→
 Xg x (bits:Int) d i ss ((acc.1:Int),acc.2)=(((tt x bits d i ss acc).1:Int),(tt x bits d i ss acc).2)
 | [],i,acc,_,h=>rfl
 |s::r,i,acc,hl,h=>by
  have hi:i < 32:=by simp only[List.length_cons] at hl;omega
  rw[Xg,tt,wJ hb hi,fU h hi]
  have h2:(acc.1 ||| 2 ^ i) < 4294967296:=Nat.or_lt_two_pow (n:=32) h (Nat.pow_lt_pow_right (by decide) hi)
  have ih:=rM (x:=x) (d:=d) hb r (i+1) (if bits.testBit i&&Vs s d x then (acc.1 ||| 2 ^ i,acc.2||(s.parts.length==d+1)) else acc)
   (by simp only[List.length_cons] at hl;omega) (by split;exact h2;exact h)
  rw[← ih]
  cases bits.testBit i&&Vs s d x <;> rfl
theorem Iz {x:Int} {bits d:Nat}:∀ (ss:List mc) (i:Nat) (acc:Nat×Bool) (j:Nat),
 (tt x bits d i ss acc).1.testBit j=(acc.1.testBit j||(decide (i≤j)&&(match ss[j - i]? with | some s=>bits.testBit j&&Vs s d x | none=>false)))
 | [],i,acc,j=>by simp[tt]
 |s::r,i,acc,j=>by
  rw[tt,Iz r (i+1)]
  by_cases hij:i=j
  ·subst hij
   simp only[Nat.sub_self,List.getElem?_cons_zero,Nat.le_refl,decide_true,Bool.true_and]
   have:decide (i+1≤i)=false:=by simp
   rw[this,Bool.false_and,Bool.or_false]
   cases h:(bits.testBit i&&Vs s d x) with
   |true=>simp[Nat.testBit_or,Nat.testBit_two_pow_self]
   |false=>simp
  ·have e1:(if (bits.testBit i&&Vs s d x)=true then (acc.1 ||| 2 ^ i,acc.2||s.parts.length==d+1) else acc).1.testBit j=acc.1.testBit j:=by
    split
    ·simp only[Nat.testBit_or,Nat.testBit_two_pow_of_ne hij,Bool.or_false]
    ·rfl
   rw[e1]
   by_cases hlt:i+1≤j
   ·have e2:j - i=(j - (i+1))+1:=by omega
    have e3:decide (i≤j)=decide (i+1≤j):=by simp;omega
    rw[e2,e3,List.getElem?_cons_succ]
   ·have e3:decide (i≤j)=false:=by simp;omega
    have e4:decide (i+1≤j)=false:=by simp;omega
    rw[e3,e4];rfl
theorem EA {x:Int} {bits d:Nat}:∀ (ss:List mc) (i:Nat) (acc:Nat×Bool),
 (tt x bits d i ss acc).2=(acc.2||(ss.zipIdx i).any fun p=>bits.testBit p.2&&Vs p.1 d x&&(p.1.parts.length==d+1))
 | [],i,acc=>by simp[tt]
 |s::r,i,acc=>by
  rw[tt,EA r (i+1),List.zipIdx_cons,List.any_cons]
  cases h:(bits.testBit i&&Vs s d x) with
  |true=>simp[Bool.or_assoc]
  |false=>simp
end Go.AM.B1
namespace Go.AM.B1
open Go.AM
def HI (ss:List mc) (k:Nat) (a:Al):Prop:=
 a.1≤k∧∃ b:Nat,a.2=(b:Int)∧b < 4294967296∧∀ i s,ss[i]? =some s→b.testBit i=true→a.1 < s.parts.length
def Wl (ss:List mc) (sets:List Al):Prop:=sets.length≤64∧∀ k a,sets[k]? =some a→HI ss k a
theorem HI.Aa {ss:List mc} {k:Nat} {a:Al} (h:HI ss k a) (hl:ss.length≤32):∀ i s,ss[i]? =some s→gz a.2 i=true→a.1 < s.parts.length:=by
 obtain⟨_,b,e,hb,h⟩:=h
 intro i s hs ht
 have hi:i < 32:=by have:=(List.getElem?_eq_some_iff.1 hs).1;omega
 rw[e,wJ hb hi] at ht
 exact h i s hs ht
theorem CW {ss:List mc} {k:Nat} {a:Al} {x:Int} (h:HI ss k a) (hl:ss.length≤32) (hf:(Xg x a.2 a.1 0 ss (0,false)).2=false):
 HI ss (k+1) (a.1+1,(Xg x a.2 a.1 0 ss (0,false)).1):=by
 obtain⟨hk,b,e,hb,h⟩:=h
 have hN:Xg x (b:Int) a.1 0 ss (0,false)=(((tt x b a.1 0 ss (0,false)).1:Int),(tt x b a.1 0 ss (0,false)).2):=rM (x:=x) (d:=a.1) hb ss 0 (0,false) (by omega) (by decide)
 rw[e,hN] at hf
 rw[e,hN]
 have hlt:=BH (x:=x) (bits:=b) (d:=a.1) ss 0 (0,false) (by omega) (by decide)
 refine⟨Nat.succ_le_succ hk,_,rfl,hlt,?_⟩
 intro i s hs ht
 rw[Iz] at ht
 simp only[Nat.zero_testBit,Nat.zero_le,decide_true,Bool.true_and,Bool.false_or,Nat.sub_zero,hs] at ht
 have hd:=h i s hs (by revert ht;cases b.testBit i <;> simp)
 have hf':(tt x b a.1 0 ss (0,false)).2=false:=hf
 rw[EA,Bool.false_or,List.any_eq_false] at hf'
 have:=hf' (s,i) (by rw[List.mk_mem_zipIdx_iff_getElem?];exact hs)
 show a.1+1 < s.parts.length
 simp only[ht,Bool.true_and] at this
 have h2:¬s.parts.length=a.1+1:=by simpa using this
 omega
theorem zC {ss:List mc} {a:Al} {x:Int} {sets:List Al} {r:List Al×Int} {k:Nat} (hs:Wl ss sets) (ha:sets[k]? =some a) (hl:ss.length≤32) (h:vg ss a x sets=some r):
 Wl ss r.1∧∃ t,r.1=sets++t:=by
 have hk:=hs.2 k a ha
 unfold vg at h
 split at h
 ·injection h with h;subst h;exact⟨hs,[],by simp⟩
 ·split at h
  ·injection h with h;subst h;exact⟨hs,[],by simp⟩
  ·next hf=>
   split at h
   ·injection h with h;subst h;exact⟨hs,[],by simp⟩
   ·split at h
    ·next hlt=>
     injection h with h;subst h
     refine⟨⟨by simp;omega,?_⟩,_,rfl⟩
     intro j b hb
     rcases Nat.lt_or_ge j sets.length with h1 | h1
     ·rw[List.getElem?_append_left h1] at hb;exact hs.2 j b hb
     ·rw[List.getElem?_append_right h1] at hb
      cases hj:j - sets.length with
      |succ n=>rw[hj] at hb;simp at hb
      |zero=>
       rw[hj] at hb
       simp only[List.getElem?_cons_zero,Option.some.injEq] at hb
       subst hb
       have hkl:=(List.getElem?_eq_some_iff.1 ha).1
       obtain⟨g1,g2⟩:=CW hk hl (by simpa using hf)
       exact⟨Nat.le_trans g1 (by omega),g2⟩
    ·cases h
theorem cu {ss:List mc} {a:Al} {k:Nat} (hl:ss.length≤32):∀ (xs:List Nat) (r r':List Al×List Int),Wl ss r.1→r.1[k]? =some a→rk ss a xs r=some r'→
 Wl ss r'.1∧(∃ t,r'.1=r.1++t)∧r'.2.length=r.2.length
 | [],r,r',h,_,e=>by injection e with e;subst e;exact⟨h,⟨[],by simp⟩,rfl⟩
 |x::xs,r,r',h,ha,e=>by
  cases hst:vg ss a x r.1 with
  |none=>rw[Wr hst] at e;cases e
  |some p=>
   rw[Ys hst] at e
   obtain⟨g1,t,g2⟩:=zC h ha hl hst
   obtain⟨k1,⟨t',k2⟩,k3⟩:=cu hl xs (p.1,r.2.set x p.2) r' g1 (by rw[g2,List.getElem?_append_left (List.getElem?_eq_some_iff.1 ha).1];exact ha) e
   exact⟨k1,⟨t++t',by rw[k2,g2,List.append_assoc]⟩,by rw[k3];simp⟩
def gb:List Int:=List.replicate 256 0
theorem Ur:gb.length=256:=List.length_replicate
def ug (ss:List mc):Nat→List Al×List (List Int)→Option (List Al×List (List Int))
 |0,r=>some r
 |k+1,r=>match r.1[r.2.length]? with
  |none=>some r
  |some a=>match rk ss a (List.range 256) (r.1,gb) with
   |none=>none
   |some p=>ug ss k (p.1,r.2++[p.2])
theorem Yr {ss:List mc} {k:Nat} {r:List Al×List (List Int)} (h:r.1[r.2.length]? =none):ug ss k r=some r:=by
 cases k with
 |zero=>rfl
 |succ k=>rw[ug,h]
theorem ru {ss:List mc} {k:Nat} {r:List Al×List (List Int)} {a:Al} (h:r.1[r.2.length]? =some a) (h2:rk ss a (List.range 256) (r.1,gb)=none):ug ss (k+1) r=none:=by
 rw[ug,h];simp only[h2]
theorem Gt {ss:List mc} {k:Nat} {r:List Al×List (List Int)} {a:Al} {p:List Al×List Int} (h:r.1[r.2.length]? =some a) (h2:rk ss a (List.range 256) (r.1,gb)=some p):ug ss (k+1) r=ug ss k (p.1,r.2++[p.2]):=by
 rw[ug,h];simp only[h2]
section
variable (R0 R1:ba) (S:PV) (nl:Bool) (sets:List Al) (rs:List (List Int)) (ss:List mc) (i:Nat)
theorem ES (h0:oa 7 R0=some R0) (h1:oa 7 R1=some R1) (hi:i < sets.length) (hl:sets.length≤64)
 (hrowL:Ft 2 (.pv (.bool false)) R0 (fb (ma (ta (Ca Da 7) Ka) (ga 7 [0,3,4,30])) qa ⟨Ql i 0,oj R0 R1 S nl sets (Hg rs) rs.length [.box (Ja (List.replicate 256 0))]⟩)):
 Ft 2 (.pv (.bool false)) R0 (Mc (Ca Da 7) [0,3] wb 6 ⟨fA i,oj R0 R1 S nl sets (Hg rs) rs.length []⟩):=by
 have hlen:(sets.map Hh).length=sets.length:=by simp
 have e1:decide ((i:Int) < (sets.length:Int))=true:=Ea (by omega)
 have q5:=Mv 7 6 rs
 obtain⟨t,g1,g2,g3⟩:=Fq hrowL
 simp only[Ql,oj,Hg,Int.cast_ofNat_Int] at g1
 unfold oj Hg
 have hz2:=sW
 generalize hz:List.replicate 256 (0:Int)=zs at *
 simp -implicitDefEqProofs only[SP,SA,SQ,sevalprocAttr,-List.reduceReplicate,Mc,ma,wb,hlen,e1,Cb,ga,za,dm,fm,Yl,Ct,Ha,pq,AV.cut,Ac,h0,h1,fA,hz2,q5]
 rw[g1]
 simp -implicitDefEqProofs only[SP,SA,SQ,sevalprocAttr,-List.reduceReplicate,UD,g2,g3]
theorem yJ (hi:i=sets.length):
 Mc (Ca Da 7) [0,3] wb 6 ⟨fA i,oj R0 R1 S nl sets (Hg rs) rs.length []⟩=
  some (.exit 0,⟨(((((((fA i).set 21 (.pv (i64 i))).set 22 (.ptr 3 0)).set 23 (.ptr 3 0)).set 24 (.ptr 3 2)).set 25 (.uq 4 nl 2 (sets.map Hh))).set 26 (.pv (i64 sets.length))).set 27 (.pv (.bool false)),oj R0 R1 S nl sets (Hg rs) rs.length []⟩):=by
 have hlen:(sets.map Hh).length=sets.length:=by simp
 have e1:decide ((i:Int) < (sets.length:Int))=false:=Fa (by omega)
 simp -implicitDefEqProofs only[SP,SA,SQ,sevalprocAttr,-List.reduceReplicate,Mc,ma,wb,hlen,e1,fA,oj]
theorem gQ (n:Nat):oa n (Hg rs)=some (Hg rs):=by
 have:(rs.flatMap Ja).all (AV.Te n deep)=true:=Mv n deep rs
 unfold Hg
 rw[Ct,if_pos this]
theorem rP (h0:oa 7 R0=some R0) (h1:oa 7 R1=some R1) (g0:oa 6 R0=some R0) (g1:oa 6 R1=some R1)
 (hS:Th 2 S (ss.map De)) (hw:ss.length≤32) (hsz:∀ s∈ss,∀ l∈s.parts,l.length * 16≤140737488355328) (Aa:Wl ss sets) (h1s:sets.length≤1):
 (∀ r,ug ss 64 (sets,[])=some r→∃ E nl',fb (ma (ta (Ca Da 7) wb) (ga 6 [0,3])) qa ⟨fA 0,oj R0 R1 S nl sets (Hg []) 0 []⟩=
  some (.exit 0,⟨E,oj R0 R1 S nl' r.1 (Hg r.2) r.2.length []⟩)∧Wl ss r.1∧r.2.length=r.1.length∧∀ r'∈r.2,r'.length=256)∧
 (ug ss 64 (sets,[])=none→Ft 2 (.pv (.bool false)) R0 (fb (ma (ta (Ca Da 7) wb) (ga 6 [0,3])) qa ⟨fA 0,oj R0 R1 S nl sets (Hg []) 0 []⟩)):=by
 have key:=Ck (g:=Mc (Ca Da 7) [0,3] wb 6)
  (fun i t=>∃ nl' sets' rs',t=⟨fA i,oj R0 R1 S nl' sets' (Hg rs') rs'.length []⟩∧ug ss 64 (sets,[])=ug ss (64 - i) (sets',rs')∧Wl ss sets'∧rs'.length=i∧i≤sets'.length∧∀ r∈rs',r.length=256)
  (fun ex t=>(∃ r,ex= .exit 0∧ug ss 64 (sets,[])=some r∧∃ E nl',t=⟨E,oj R0 R1 S nl' r.1 (Hg r.2) r.2.length []⟩∧Wl ss r.1∧r.2.length=r.1.length∧∀ r'∈r.2,r'.length=256)∨
   (ex= .ret∧ug ss 64 (sets,[])=none∧t.env.get 2= .pv (.bool false)∧t.H[0]? =some R0))
  qa 64 0 ⟨fA (0:Nat),oj R0 R1 S nl sets (Hg []) 0 []⟩ (by unfold qa;omega) (by omega) ⟨nl,sets,[],rfl,rfl,Aa,rfl,by omega,by simp⟩ ?_ ?_
 ·obtain⟨ex,t,h,_,hq⟩:=key
  have h':fb (ma (ta (Ca Da 7) wb) (ga 6 [0,3])) qa ⟨fA 0,oj R0 R1 S nl sets (Hg []) 0 []⟩=some (ex,t):=h
  rw[h']
  rcases hq with⟨r,rfl,hr',E,nl',rfl,q1,q2,q3⟩ | ⟨rfl,hr',hg,hg2⟩
  ·refine⟨fun r2 e=> ?_,fun e=> ?_⟩
   ·rw[hr'] at e;injection e with e;subst e;exact⟨E,nl',rfl,q1,q2,q3⟩
   ·rw[hr'] at e;cases e
  ·refine⟨fun r2 e=> ?_,fun _=> .mk _ hg hg2⟩
   rw[hr'] at e;cases e
 ·rintro i hi t ⟨nl',sets',rs',rfl,hws,hok',hrl,hil,hrr⟩
  by_cases hlt:i < sets'.length
  ·obtain⟨a,ha⟩:∃ a,sets'[i]? =some a:=⟨sets'[i],by simp[hlt]⟩
   have hsa:=hok'.2 i a ha
   have hget:sets'[rs'.length]? =some a:=by rw[hrl];exact ha
   have hrow:=MR R0 R1 S (Hg rs') rs'.length ss h0 h1 (gQ rs' 7) hS (by unfold maxLen;omega) hsz (nl:=nl') Ur ha (by have:=hsa.1;omega) hok'.1 (hsa.Aa hw)
   have e64:64 - i=(64 - (i+1))+1:=by omega
   cases hr:rk ss a (List.range 256) (sets',gb) with
   |none=>
    have hst:=ES R0 R1 S nl' sets' rs' i h0 h1 hlt hok'.1 (hrow.2 hr)
    obtain⟨t,k1,k2,k3⟩:=Fq hst
    rw[e64,ru (r:=(sets',rs')) hget hr] at hws
    exact .inr ⟨.ret,t,k1,rfl,.inr ⟨rfl,hws,k2,k3⟩⟩
   |some p=>
    obtain⟨nl2,k1,k2,k3,k4⟩:=hrow.1 p hr
    have hro:=cu hw _ _ _ hok' ha hr
    rw[e64,Gt (r:=(sets',rs')) hget hr] at hws
    have hsr:=XO R0 R1 S nl' sets' rs' i h0 h1 g0 g1 hlt hok'.1 (by have:=hok'.1;omega) hrr nl2 p.1 p.2 k3 k1
    refine .inl ⟨_,hsr,nl2,p.1,rs'++[p.2],by simp,hws,hro.1,by simp[hrl],?_,?_⟩
    ·obtain⟨t,ht⟩:=k4
     rw[ht];simp;omega
    ·intro r hr
     rcases List.mem_append.1 hr with h | h
     ·exact hrr r h
     ·simp at h;subst h;exact k3
  ·have hie:i=sets'.length:=by omega
   rw[Yr (r:=(sets',rs')) (by show sets'[rs'.length]? =none;rw[hrl,hie];simp)] at hws
   exact .inr ⟨.exit 0,_,yJ R0 R1 S nl' sets' rs' i hie,rfl,.inl ⟨(sets',rs'),rfl,hws,_,nl',rfl,hok',by show rs'.length=sets'.length;omega,hrr⟩⟩
 ·rintro t ⟨nl',sets',rs',rfl,hws,hok',hrl,hil,hrr⟩
  have hie:64=sets'.length:=by have:=hok'.1;omega
  rw[Yr (r:=(sets',rs')) (by show sets'[rs'.length]? =none;rw[hrl,hie];simp)] at hws
  exact⟨.exit 0,_,yJ R0 R1 S nl' sets' rs' 64 hie,rfl,.inl ⟨(sets',rs'),rfl,hws,_,nl',rfl,hok',by show rs'.length=sets'.length;omega,hrr⟩⟩
end
end Go.AM.B1
namespace Go.AM.B1
open Go.AM
abbrev Eh (R0 R1:ba) (S:PV) (nl nr:Bool) (fr:Nat) (sets:List Al) (C:List Int) (n:Nat) (T:List ba):List ba:=
 R0::R1:: .map (IB sets 0):: .box [.pv S,.mp 2,.uq 4 nl 2 (sets.map Hh),.own 5 n]:: .tok 2 sets.length nl:: .seq 256 true (Ja C) fr nr::T
abbrev Mh (row:List Int):PV:= .agg (row.map i64)
abbrev Gy (n:Nat) (row:List Int) (i x:Int):Tr:=
 (((((Tr.lf.set 34 (.pv (i64 x))).set 33 (.pv (Mh row))).set 5 (.pv (i64 i))).set 4 (.mp 7)).set 3 (.own 6 n)).set 0 (.ptr 3 0)
section
variable (call:Xa) (R0 R1:ba) (S:PV) (nl nr nk:Bool) (fr fk:Nat) (sets:List Al) (C:List Int) (n:Nat) (vc:List Int) (M:ba) (row:List Int) (i x:Nat) (to:Int)
theorem CM (hx:x < 256) (hto:row[x]? =some to) (h:to < 0):ma (ta call qc) (fun s=>some (tidy [0,3,4,5,33,34] s)) ⟨Gy n row i x,Eh R0 R1 S nl nr fr sets C n [.seq 1 false (Ja vc) fk nk,M]⟩=
 some (.norm,⟨Gy n row i (x+1:Nat),Eh R0 R1 S nl nr fr sets C n [.seq 1 false (Ja vc) fk nk,M]⟩):=by
 have e1:decide ((x:Int) < 256)=true:=Ea (by omega)
 have e2:decide (to≥0)=false:=Fa (by omega)
 have hq:Ga (x:Int) 256:=by unfold Ga;omega
 have t1:((x:Int)).toNat=x:=by simp
 have t2:=Va (i:=x) (n:=256) hx (by unfold maxLen;omega)
 have ht:(row.map i64)[x]? =some (i64 to):=by rw[List.getElem?_map,hto];rfl
 simp -implicitDefEqProofs only[SP,SA,SQ,sevalprocAttr,-List.reduceReplicate,ma,qc,e1,e2,eq_true hq,t1,t2,ht,xl,wa,tidy,zc,Gy,Eh]
theorem pQ (hC:C.length=n * 256) (hk:vc.length=n) (hfr:fr≤n * 256) (hfk:fk≤n) (hi:i < n) (hx:x < 256) (hto:row[x]? =some to) (h:0≤to) {v:Int} (hv:vc[to.toNat]? =some v):ma (ta call qc) (fun s=>some (tidy [0,3,4,5,33,34] s)) ⟨Gy n row i x,Eh R0 R1 S nl nr fr sets C n [.seq 1 false (Ja vc) fk nk,M]⟩=
 some (.norm,⟨Gy n row i (x+1:Nat),Eh R0 R1 S nl nr (n * 256) sets (C.set (i * 256+x) v) n [.seq 1 false (Ja vc) fk nk,M]⟩):=by
 have e1:decide ((x:Int) < 256)=true:=Ea (by omega)
 have e2:decide (to≥0)=true:=Ea (by omega)
 have hq:Ga (x:Int) 256:=by unfold Ga;omega
 have t1:((x:Int)).toNat=x:=by simp
 have t3:((i:Int)).toNat=i:=by simp
 have t2:=Va (i:=x) (n:=256) hx (by unfold maxLen;omega)
 have ht:(row.map i64)[x]? =some (i64 to):=by rw[List.getElem?_map,hto];rfl
 have hv':(Ja vc)[to.toNat]? =some (.pv (i64 v)):=by rw[Ja,List.getElem?_map,hv];rfl
 have hvl:=(List.getElem?_eq_some_iff.1 hv).1
 have hq2:Ga to n:=by unfold Ga;omega
 have hq3:Ga (i:Int) n:=by unfold Ga;omega
 have w1:Ih 1 n fk (Ja vc).length:=by rw[ib];unfold Ih;omega
 have w2:Ih 256 n fr (Ja C).length:=by rw[ib];unfold Ih;omega
 have w3:((Ja vc).length=n)=True:=by rw[ib];exact eq_true hk
 have w5:(i * 256+x+1≤n * 256)=True:=eq_true (by omega)
 have w4:((Ja C).length=n * 256)=True:=by rw[ib];exact eq_true hC
 simp -implicitDefEqProofs only[SP,SA,SQ,sevalprocAttr,-List.reduceReplicate,ma,qc,e1,e2,eq_true hq,eq_true hq2,eq_true hq3,eq_true w1,eq_true w2,w3,w4,w5,t1,t2,t3,ht,hv',xl,wa,Li,tidy,zc,Gy,Eh]
def Gd (vc row:List Int) (i:Nat):List Nat→List Int→List Int
 | [],C=>C
 |x::xs,C=>Gd vc row i xs (match row[x]? with
  |some to=>if 0≤to then C.set (i * 256+x) (vc.getD to.toNat 0) else C
  |none=>C)
theorem Ol (vc row:List Int) (i:Nat):∀ (xs:List Nat) (C:List Int),(Gd vc row i xs C).length=C.length
 | [],C=>rfl
 |x::xs,C=>by
  rw[Gd,Ol vc row i xs]
  split
  ·split <;> simp
  ·rfl
theorem vK (hC:C.length=n * 256) (hk:vc.length=n) (hfr:fr=0∨fr=n * 256) (hfk:fk≤n) (hi:i < n) (hrow:row.length=256) (hto:∀ to∈row,to < n):
 ∃ fr',(fr'=0∨fr'=n * 256)∧fb (ma (ta call qc) (fun s=>some (tidy [0,3,4,5,33,34] s))) qa ⟨Gy n row i 0,Eh R0 R1 S nl nr fr sets C n [.seq 1 false (Ja vc) fk nk,M]⟩=
  some (.exit 2,⟨(Gy n row i 256).set 35 (.pv (.bool false)),Eh R0 R1 S nl nr fr' sets (Gd vc row i (List.range 256) C) n [.seq 1 false (Ja vc) fk nk,M]⟩):=by
 generalize hxs:List.range 256=xs
 have key:=Ck (g:=ma (ta call qc) (fun s=>some (tidy [0,3,4,5,33,34] s)))
  (fun x t=>∃ fr' C',(fr'=0∨fr'=n * 256)∧C'.length=n * 256∧t=⟨Gy n row i x,Eh R0 R1 S nl nr fr' sets C' n [.seq 1 false (Ja vc) fk nk,M]⟩∧Gd vc row i xs C=Gd vc row i (xs.drop x) C')
  (fun ex t=>∃ fr',(fr'=0∨fr'=n * 256)∧ex= .exit 2∧t=⟨(Gy n row i 256).set 35 (.pv (.bool false)),Eh R0 R1 S nl nr fr' sets (Gd vc row i xs C) n [.seq 1 false (Ja vc) fk nk,M]⟩)
  qa 256 0 ⟨Gy n row i (0:Nat),Eh R0 R1 S nl nr fr sets C n [.seq 1 false (Ja vc) fk nk,M]⟩ (by unfold qa;omega) (by omega) ⟨fr,C,hfr,hC,rfl,rfl⟩ ?_ ?_
 ·obtain⟨ex,t,h,_,fr',q1,rfl,rfl⟩:=key
  exact⟨fr',q1,h⟩
 ·rintro x hx t ⟨fr',C',hf',hC',rfl,hl⟩
  have hd:=bq hx
  rw[hxs] at hd
  rw[hd] at hl
  obtain⟨to,ht⟩:∃ to,row[x]? =some to:=⟨row[x],by simp[hrow,hx]⟩
  have hlt:=hto to (List.mem_of_getElem? ht)
  by_cases h0:0≤to
  ·obtain⟨v,hv⟩:∃ v,vc[to.toNat]? =some v:=⟨vc[to.toNat]'(by omega),by rw[List.getElem?_eq_getElem]⟩
   refine .inl ⟨_,pQ call R0 R1 S nl nr nk fr' fk sets C' n vc M row i x to hC' hk (by omega) hfk hi hx ht h0 hv,n * 256,_,.inr rfl,by simpa using hC',rfl,?_⟩
   rw[hl,Gd,ht]
   have:vc.getD to.toNat 0=v:=by simp[hv]
   simp only[if_pos h0,this]
  ·refine .inl ⟨_,CM call R0 R1 S nl nr nk fr' fk sets C' n vc M row i x to hx ht (by omega),fr',C',hf',hC',rfl,?_⟩
   rw[hl,Gd,ht]
   simp only[if_neg h0]
 ·rintro t ⟨fr',C',hf',hC',rfl,hl⟩
  rw[List.drop_eq_nil_of_le (by rw[← hxs,List.length_range];exact Nat.le_refl _)] at hl
  refine⟨.exit 2,_,?_,rfl,fr',hf',rfl,rfl⟩
  rw[hl]
  have e1:decide (((256:Nat):Int) < 256)=false:=by decide
  simp -implicitDefEqProofs only[SP,SA,SQ,sevalprocAttr,-List.reduceReplicate,ma,qc,e1,Gy,Eh,Gd]
end
theorem AA:∀ (a b:List Int),a.length=b.length→Gi (List.replicate a.length 1) (a.map i64) (b.map i64)=some (decide (a=b))
 | [],[],_=>rfl
 |x::a,y::b,h=>by
  have ih:=AA a b (by simpa using h)
  simp only[List.length_cons,List.replicate_succ,List.map_cons,Gi,sr,if_true,Option.bind_some,ih,Option.map_some,List.cons.injEq,Bool.decide_and]
  congr 2
 | [],_::_,h=>by cases h
 |_::_,[],h=>by cases h
def Vr (M:List (List Int×Int)):List (PV×PV):=M.map fun p=>(Mh p.1,i64 p.2)
theorem zQ (M:List (List Int×Int)) (p:List Int×Int):Vr (M++[p])=Vr M++[(Mh p.1,i64 p.2)]:=by simp[Vr]
def Vj (a:List Int):List (List Int×Int)→Option Int
 | []=>none
 |p::r=>if a=p.1 then some p.2 else Vj a r
theorem PJ {a:List Int} (ha:a.length=256):∀ (M:List (List Int×Int)) (j:Nat),(∀ p∈M,p.1.length=256)→
 (∀ v,Vj a M=some v→∃ k,Ml (.row (List.replicate 256 1)) (Mh a) (Vr M) j=some (some (k,i64 v)))∧(Vj a M=none→Ml (.row (List.replicate 256 1)) (Mh a) (Vr M) j=some none)
 | [],j,_=>⟨fun v h=>(by cases h),fun _=>rfl⟩
 |p::r,j,hp=>by
  have he:=AA a p.1 (by rw[ha,hp p (by simp)])
  rw[ha] at he
  have ih:=PJ ha r (j+1) (fun q hq=>hp q (by simp[hq]))
  have hk:Fk (.row (List.replicate 256 1)) (Mh a) (Mh p.1)=some (decide (a=p.1)):=he
  rw[show Vr (p::r)=(Mh p.1,i64 p.2)::Vr r from rfl,Ml,hk,Option.bind_some,Vj]
  by_cases h:a=p.1
  ·rw[if_pos h,decide_eq_true h]
   exact⟨fun v e=>(by injection e with e;subst e;exact⟨j,rfl⟩),fun e=>(by cases e)⟩
  ·rw[if_neg h,decide_eq_false h]
   exact ih
theorem WL {a:List Int} (ha:a.length=256):(Fk (.row (List.replicate 256 1)) (Mh a) (Mh a)).isSome=true:=by
 have he:=AA a a rfl
 rw[ha] at he
 show (Gi _ _ _).isSome=true
 rw[he];rfl
def Ua (C:List Int) (i:Nat):List Int:=(C.drop (i * 256)).take 256
theorem uh {C:List Int} {n i:Nat} (hC:C.length=n * 256) (hi:i < n):(Ua C i).length=256:=by
 unfold Ua;rw[List.length_take,List.length_drop,hC];omega
theorem nD (C:List Int) (i:Nat):Vd (List.take 256 (List.drop (i * 256) (Ja C)))=some ((Ua C i).map i64):=by
 have:List.take 256 (List.drop (i * 256) (Ja C))=Ja (Ua C i):=by unfold Ua Ja;rw[List.map_take,List.map_drop]
 rw[this,Qs]
structure UI where
 C:List Int
 vc:List Int
 M:List (List Int×Int)
def Ek (i:Nat) (s:UI):UI:=
 let C:=Gd s.vc (Ua s.C i) i (List.range 256) s.C
 match Vj (Ua C i) s.M with
 |some v=>⟨C,s.vc.set i v,s.M⟩
 |none=>⟨C,s.vc.set i i,s.M++[(Ua C i,(i:Int))]⟩
def Zi:Nat→UI→UI
 |0,s=>s
 |i+1,s=>Zi i (Ek i s)
theorem Dr {i:Nat} {s:UI} {v:Int} (h:Vj (Ua (Gd s.vc (Ua s.C i) i (List.range 256) s.C) i) s.M=some v):Ek i s=⟨Gd s.vc (Ua s.C i) i (List.range 256) s.C,s.vc.set i v,s.M⟩:=by
 simp only[Ek,h]
theorem cr {i:Nat} {s:UI} (h:Vj (Ua (Gd s.vc (Ua s.C i) i (List.range 256) s.C) i) s.M=none):
 Ek i s=⟨Gd s.vc (Ua s.C i) i (List.range 256) s.C,s.vc.set i i,s.M++[(Ua (Gd s.vc (Ua s.C i) i (List.range 256) s.C) i,(i:Int))]⟩:=by
 simp only[Ek,h]
abbrev Oz (n:Nat) (i:Int):Tr:=(((Tr.lf.set 5 (.pv (i64 i))).set 4 (.mp 7)).set 3 (.own 6 n)).set 0 (.ptr 3 0)
section
variable (call:Xa) (R0 R1:ba) (S:PV) (nl nr nk:Bool) (fr fk:Nat) (sets:List Al) (n:Nat) (s:UI) (i:Nat)
theorem CI (hC:s.C.length=n * 256) (hk:s.vc.length=n) (hfr:fr=0∨fr=n * 256) (hfk:fk≤n) (hi:i < n) (hn:n≤64) (hto:∀ to∈Ua s.C i,to < n) (hM:∀ p∈s.M,p.1.length=256):
 ∃ fr',(fr'=0∨fr'=n * 256)∧ma (ta call Dd) (fun s=>some (tidy [0,3,4,5] s)) ⟨Oz n i,Eh R0 R1 S nl nr fr sets s.C n [.seq 1 false (Ja s.vc) fk nk,.map (Vr s.M)]⟩=
  some (.norm,⟨Oz n ((i:Int) - 1),Eh R0 R1 S nl nr fr' sets (Ek i s).C n [.seq 1 false (Ja (Ek i s).vc) n nk,.map (Vr (Ek i s).M)]⟩):=by
 obtain⟨fr',hf',hin⟩:=vK call R0 R1 S nl nr nk fr fk sets s.C n s.vc (.map (Vr s.M)) (Ua s.C i) i hC hk hfr hfk hi (uh hC hi) hto
 refine⟨fr',hf',?_⟩
 have hC2:(Gd s.vc (Ua s.C i) i (List.range 256) s.C).length=n * 256:=by rw[Ol,hC]
 have hrl:=uh hC2 hi
 have hfd:=PJ hrl s.M 0 hM
 have his:=WL hrl
 have p1:=nD s.C i
 have p2:=nD (Gd s.vc (Ua s.C i) i (List.range 256) s.C) i
 have e1:decide ((i:Int)≥0)=true:=Ea (by omega)
 have hq3:Ga (i:Int) n:=by unfold Ga;omega
 have t3:((i:Int)).toNat=i:=by simp
 have t2:IntKind.i64.wrap ((i:Int) - 1)=(i:Int) - 1:=Ba (by omega)
 have w2:Ih 256 n fr (Ja s.C).length:=by rw[ib];unfold Ih;omega
 have w4:((Ja s.C).length=n * 256)=True:=by rw[ib];exact eq_true hC
 have w6:(i * 256+256≤(Ja s.C).length)=True:=by rw[ib];exact eq_true (by omega)
 have hl1:=@Dr i s
 have hl2:=@cr i s
 generalize Gd s.vc (Ua s.C i) i (List.range 256) s.C=C2 at *
 have w12:Ih 256 n fr' (Ja C2).length:=by rw[ib];unfold Ih;omega
 have w14:((Ja C2).length=n * 256)=True:=by rw[ib];exact eq_true hC2
 have w16:(i * 256+256≤(Ja C2).length)=True:=by rw[ib];exact eq_true (by omega)
 have w1:Ih 1 n fk (Ja s.vc).length:=by rw[ib];unfold Ih;omega
 have w3:((Ja s.vc).length=n)=True:=by rw[ib];exact eq_true hk
 have w5:(i+1≤n)=True:=eq_true (by omega)
 generalize hz:List.replicate 256 1=ks at *
 have hin':fb (ma (ta call qc) (fun s=>some (tidy [0,3,4,5,33,34] s))) qa ⟨Gy n (Ua s.C i) i 0,Eh R0 R1 S nl nr fr sets s.C n [.seq 1 false (Ja s.vc) fk nk,.map (Vr s.M)]⟩=_:=hin
 simp only[Gy,Eh,tidy,zc] at hin'
 cases hlk:Vj (Ua C2 i) s.M with
 |some v=>
  obtain⟨k,hk2⟩:=hfd.1 v hlk
  rw[hl1 hlk]
  simp -implicitDefEqProofs only[SP,SA,SQ,sevalprocAttr,-List.reduceReplicate,ma,Dd,e1,eq_true hq3,t2,t3,eq_true w2,w4,w6,p1,wa,gp,tidy,zc,Oz,Eh,hz]
  rw[hin']
  simp -implicitDefEqProofs only[SP,SA,SQ,sevalprocAttr,-List.reduceReplicate,eq_true hq3,t2,t3,eq_true w12,w14,w16,eq_true w1,w3,w5,p2,wa,eq_true his,hk2,Li,tidy,zc,Oz,Eh]
 |none=>
  have hk2:=hfd.2 hlk
  rw[hl2 hlk]
  simp -implicitDefEqProofs only[SP,SA,SQ,sevalprocAttr,-List.reduceReplicate,ma,Dd,e1,eq_true hq3,t2,t3,eq_true w2,w4,w6,p1,wa,gp,tidy,zc,Oz,Eh,hz]
  rw[hin']
  simp -implicitDefEqProofs only[SP,SA,SQ,sevalprocAttr,-List.reduceReplicate,eq_true hq3,t2,t3,eq_true w12,w14,w16,eq_true w1,w3,w5,p2,wa,eq_true his,hk2,Li,tidy,zc,Oz,Eh,zQ]
end
end Go.AM.B1
namespace Go.AM.B1
open Go.AM
structure TW (n:Nat) (s:UI):Prop where
 hC:s.C.length=n * 256
 hk:s.vc.length=n
 cC:∀ c∈s.C,c < n
 ck:∀ c∈s.vc,c < n
 cM:∀ p∈s.M,p.1.length=256∧p.2 < n
theorem iE {vc row:List Int} {i:Nat} {n:Int} (hn:0 < n) (hk:∀ c∈vc,c < n):∀ (xs:List Nat) (C:List Int),(∀ c∈C,c < n)→∀ c∈Gd vc row i xs C,c < n
 | [],C,h=>h
 |x::xs,C,h=>by
  rw[Gd]
  refine iE hn hk xs _ ?_
  split
  ·split
   ·intro c hc
    rcases List.mem_or_eq_of_mem_set hc with h1 | h1
    ·exact h c h1
    ·subst h1
     next to _ _=>
     rcases Nat.lt_or_ge to.toNat vc.length with h2 | h2
     ·rw[List.getD_eq_getElem?_getD,List.getElem?_eq_getElem h2];exact hk _ (List.getElem_mem h2)
     ·rw[List.getD_eq_getElem?_getD,List.getElem?_eq_none h2];exact hn
   ·exact h
  ·exact h
theorem Ss {a:List Int}:∀ {M:List (List Int×Int)} {v:Int},Vj a M=some v→∃ p∈M,p.1=a∧p.2=v
 |p::r,v,h=>by
  rw[Vj] at h
  split at h
  ·next h1=>injection h with h;exact⟨p,by simp,h1.symm,h⟩
  ·obtain⟨q,hq,e⟩:=Ss h
   exact⟨q,by simp[hq],e⟩
theorem pB {n i:Nat} {s:UI} (hi:i < n) (h:TW n s):TW n (Ek i s):=by
 have hC2:(Gd s.vc (Ua s.C i) i (List.range 256) s.C).length=n * 256:=by rw[Ol,h.hC]
 have hlt:=iE (i:=i) (row:=Ua s.C i) (n:=(n:Int)) (by omega) h.ck (List.range 256) s.C h.cC
 have hl1:=@Dr i s
 have hl2:=@cr i s
 generalize Gd s.vc (Ua s.C i) i (List.range 256) s.C=C2 at *
 cases hl:Vj (Ua C2 i) s.M with
 |some v=>
  obtain⟨p,hp,_,hv⟩:=Ss hl
  have:=(h.cM p hp).2
  rw[hl1 hl]
  refine⟨hC2,by simp[h.hk],hlt,?_,h.cM⟩
  intro c hc
  rcases List.mem_or_eq_of_mem_set hc with h1 | h1
  ·exact h.ck c h1
  ·omega
 |none=>
  rw[hl2 hl]
  refine⟨hC2,by simp[h.hk],hlt,?_,?_⟩
  ·intro c hc
   rcases List.mem_or_eq_of_mem_set hc with h1 | h1
   ·exact h.ck c h1
   ·omega
  ·intro p hp
   rcases List.mem_append.1 hp with h1 | h1
   ·exact h.cM p h1
   ·simp at h1;subst h1;exact⟨uh hC2 hi,by simp;omega⟩
theorem lD {n:Nat}:∀ (k:Nat) (s:UI),k≤n→TW n s→TW n (Zi k s)
 |0,s,_,h=>h
 |k+1,s,hk,h=>lD k _ (by omega) (pB (by omega) h)
def Fe (n:Nat) (C:List Int):UI:=Zi n ⟨C,List.replicate n 0,[]⟩
section
variable (call:Xa) (R0 R1:ba) (S:PV) (nl nr nk:Bool) (sets:List Al) (C:List Int) (n:Nat)
theorem bM (s0:UI) (hn:n≤64) (h0:0 < n) (Aa:TW n s0):
 ∃ fr fk,(fr=0∨fr=n * 256)∧fb (ma (ta call Dd) (fun s=>some (tidy [0,3,4,5] s))) qa ⟨Oz n ((n:Int) - 1),Eh R0 R1 S nl nr 0 sets s0.C n [.seq 1 false (Ja s0.vc) 0 nk,.map (Vr s0.M)]⟩=
  some (.exit 0,⟨((Oz n (-1)).set 23 (.pv (i64 (-1)))).set 24 (.pv (.bool false)),Eh R0 R1 S nl nr fr sets (Zi n s0).C n [.seq 1 false (Ja (Zi n s0).vc) fk nk,.map (Vr (Zi n s0).M)]⟩)∧fk≤n:=by
 have key:=Ck (g:=ma (ta call Dd) (fun s=>some (tidy [0,3,4,5] s)))
  (fun j t=>∃ fr fk s,(fr=0∨fr=n * 256)∧fk≤n∧TW n s∧t=⟨Oz n ((n:Int) - 1 - j),Eh R0 R1 S nl nr fr sets s.C n [.seq 1 false (Ja s.vc) fk nk,.map (Vr s.M)]⟩∧Zi n s0=Zi (n - j) s)
  (fun ex t=>∃ fr fk,(fr=0∨fr=n * 256)∧fk≤n∧ex= .exit 0∧t=⟨((Oz n (-1)).set 23 (.pv (i64 (-1)))).set 24 (.pv (.bool false)),Eh R0 R1 S nl nr fr sets (Zi n s0).C n [.seq 1 false (Ja (Zi n s0).vc) fk nk,.map (Vr (Zi n s0).M)]⟩)
  qa n 0 ⟨Oz n ((n:Int) - 1 - (0:Nat)),Eh R0 R1 S nl nr 0 sets s0.C n [.seq 1 false (Ja s0.vc) 0 nk,.map (Vr s0.M)]⟩ (by unfold qa;omega) (by omega) ⟨0,0,s0,.inl rfl,by omega,Aa,rfl,rfl⟩ ?_ ?_
 ·obtain⟨ex,t,h,_,fr,fk,q1,q2,rfl,rfl⟩:=key
  rw[show ((n:Int) - 1 - (0:Nat))=(n:Int) - 1 by omega] at h
  exact⟨fr,fk,q1,h,q2⟩
 ·rintro j hj t ⟨fr,fk,s,hf,hfk,hs,rfl,hl⟩
  obtain⟨i,hi⟩:∃ i,n - j=i+1:=⟨n - j - 1,by omega⟩
  rw[hi,Zi] at hl
  obtain⟨fr',hf',hr⟩:=CI call R0 R1 S nl nr nk fr fk sets n s i hs.hC hs.hk hf hfk (by omega) hn
   (fun to h=>hs.cC to (List.mem_of_mem_drop (List.mem_of_mem_take h))) (fun p hp=>(hs.cM p hp).1)
  rw[show ((n:Int) - 1 - (j:Int))=(i:Int) by omega]
  refine .inl ⟨_,hr,fr',n,Ek i s,hf',by omega,pB (by omega) hs,?_,?_⟩
  ·rw[show ((n:Int) - 1 - ((j+1:Nat):Int))=(i:Int) - 1 by omega]
  ·rw[hl,show n - (j+1)=i by omega]
 ·rintro t ⟨fr,fk,s,hf,hfk,hs,rfl,hl⟩
  rw[Nat.sub_self,Zi] at hl
  rw[show ((n:Int) - 1 - (n:Int))= -1 by omega]
  refine⟨.exit 0,_,?_,rfl,fr,fk,hf,hfk,rfl,rfl⟩
  rw[hl]
  have e1:decide ((-1:Int)≥0)=false:=by decide
  simp -implicitDefEqProofs only[SP,SA,SQ,sevalprocAttr,-List.reduceReplicate,ma,Dd,e1,Oz,Eh]
theorem SF (n:Nat):xj [PV.int .i64 0] n=Ja (List.replicate n 0):=by
 induction n with
 |zero=>rfl
 |succ n ih=>rw[xj,ih];rfl
theorem oQ (hn:n≤64) (h0:0 < n) (hs:sets.length=n) (hC:C.length=n * 256) (cC:∀ c∈C,c < n):
 ∃ fr fk v,(fr=0∨fr=n * 256)∧og call vi [.ptr 3 0] (Eh R0 R1 S nl nr 0 sets C n [])=
  some (v,Eh R0 R1 S nl nr fr sets (Fe n C).C n [.seq 1 false (Ja (Fe n C).vc) fk false,.map (Vr (Fe n C).M)]):=by
 obtain⟨fr,fk,hf,hl,hfk⟩:=bM call R0 R1 S nl nr false sets n ⟨C,List.replicate n 0,[]⟩ hn h0
  ⟨hC,by simp,cC,by intro c hc;rw[List.eq_of_mem_replicate hc];omega,by simp⟩
 refine⟨fr,fk,.own 6 n,hf,?_⟩
 have hlen:(sets.map Hh).length=n:=by rw[List.length_map,hs]
 have r0:xj [PV.int .i64 0] n=Ja (List.replicate n 0):=SF n
 have t1:((n:Int)).toNat=n:=by simp
 have t2:IntKind.i64.wrap ((n:Int) - 1)=(n:Int) - 1:=Ba (by omega)
 have e1:(0≤(n:Int))=True:=by simp
 have e2:mb n 8:=by unfold mb;omega
 have e3:((n:Int)≤(n:Int))=True:=by simp
 unfold Fe
 generalize Zi n ⟨C,List.replicate n 0,[]⟩=g at *
 generalize List.replicate n (0:Int)=zs at *
 simp only[tidy,zc,Oz,Eh,Vr,List.map_nil] at hl
 simp -implicitDefEqProofs only[SP,SA,SQ,sevalprocAttr,-List.reduceReplicate,vi,hlen,r0,t1,t2,e1,eq_true e2,e3,gp,tidy,zc,Eh]
 rw[hl]
 simp -implicitDefEqProofs only[SP,SA,SQ,sevalprocAttr,-List.reduceReplicate,Eh,Vr]
end
end Go.AM.B1
namespace Go.AM.B1
open Go.AM
structure ef where
 lo:Int
 hi:Int
 to:Int
deriving DecidableEq
def YE (e:ef):PV:= .agg [i64 e.lo,i64 e.hi,i64 e.to]
def Vc (l:List ef):List Int:=l.flatMap fun e=>[e.lo,e.hi,e.to]
theorem Dj (l:List ef):(Vc l).length=l.length * 3:=by
 induction l with
 |nil=>rfl
 |cons e l ih=>simp only[Vc,List.flatMap_cons,List.length_append,List.length_cons,List.length_nil] at ih ⊢;omega
theorem vl (l:List ef) (e:ef):Vc (l++[e])=Vc l++[e.lo,e.hi,e.to]:=by simp[Vc]
def Cf (x to:Int) (l:List ef):List ef:=
 if to= -2 then l else match l.getLast? with
  |some e=>if e.to=to∧e.hi=x - 1 then l.dropLast++[⟨e.lo,x,e.to⟩] else l++[⟨x,x,to⟩]
  |none=>l++[⟨x,x,to⟩]
theorem XV (a b c:Int):Ja [a,b,c]=[.pv (i64 a),.pv (i64 b),.pv (i64 c)]:=rfl
theorem wD (a b:List Int):Ja (a++b)=Ja a++Ja b:=by simp[Ja]
abbrev ct (row:List Int) (n:Nat) (x:Int):Tr:=((Tr.lf.set 8 (.pv (i64 x))).set 7 (.pv (Mh row))).set 3 (.own 0 n)
theorem mE (l:List Int) (e:ef) (k:Nat) (hk:k < 3):(Ja (l++[e.lo,e.hi,e.to]))[l.length+k]? =some (.pv (i64 (if k=0 then e.lo else if k=1 then e.hi else e.to))):=by
 rw[Ja,List.getElem?_map,List.getElem?_append_right (by omega),Nat.add_sub_cancel_left]
 match k,hk with
 |0,_=>rfl
 |1,_=>rfl
 |2,_=>rfl
section
variable (call:Xa) (row:List Int) (x:Nat) (to:Int) (fl:Nat)
 (hx:x < 256) (hto:row[x]? =some to)
include hx hto
theorem RN (l:List ef) (nl:Bool) (h:to= -2):ma (ta call Rc) (fun s=>some (tidy [3,7,8] s)) ⟨ct row l.length x,[.seq 3 true (Ja (Vc l)) fl nl]⟩=
 some (.norm,⟨ct row l.length (x+1:Nat),[.seq 3 true (Ja (Vc l)) fl nl]⟩):=by
 have e1:decide ((x:Int) < 256)=true:=Ea (by omega)
 have e2:(to== -2)=true:=by simp[h]
 have hq:Ga (x:Int) 256:=by unfold Ga;omega
 have t1:((x:Int)).toNat=x:=by simp
 have t2:=Va (i:=x) (n:=256) hx (by unfold maxLen;omega)
 have ht:(row.map i64)[x]? =some (i64 to):=by rw[List.getElem?_map,hto];rfl
 simp -implicitDefEqProofs only[SP,SA,SQ,sevalprocAttr,ma,Rc,e1,e2,eq_true hq,t1,t2,ht,wa,tidy,zc,ct]
theorem WK (nl:Bool) (h:to≠ -2):ma (ta call Rc) (fun s=>some (tidy [3,7,8] s)) ⟨ct row 0 x,[.seq 3 true [] 0 nl]⟩=
 some (.norm,⟨ct row 1 (x+1:Nat),[.seq 3 true (Ja [(x:Int),x,to]) 0 false]⟩):=by
 have e1:decide ((x:Int) < 256)=true:=Ea (by omega)
 have e2:(to== -2)=false:=Rh h
 have hq:Ga (x:Int) 256:=by unfold Ga;omega
 have t1:((x:Int)).toNat=x:=by simp
 have t2:=Va (i:=x) (n:=256) hx (by unfold maxLen;omega)
 have ht:(row.map i64)[x]? =some (i64 to):=by rw[List.getElem?_map,hto];rfl
 have q1:mb 1 24:=by unfold mb;omega
 simp -implicitDefEqProofs only[SP,SA,SQ,sevalprocAttr,ma,Rc,e1,e2,eq_true hq,t1,t2,ht,eq_true q1,wa,tidy,zc,ct,cj,Qh,AV.aC,AV.Fo,Ja]
variable (l:List ef) (e:ef) (hl:l.length < 256) (hfl:fl≤(l.length+1) * 3)
include hl hfl
theorem zO (h:to≠ -2) (h1:e.to=to) (h2:e.hi=(x:Int) - 1):ma (ta call Rc) (fun s=>some (tidy [3,7,8] s)) ⟨ct row (l.length+1) x,[.seq 3 true (Ja (Vc l++[e.lo,e.hi,e.to])) fl false]⟩=
 some (.norm,⟨ct row (l.length+1) (x+1:Nat),[.seq 3 true (Ja (Vc l++[e.lo,(x:Int),e.to])) ((l.length+1) * 3) false]⟩):=by
 have e1:decide ((x:Int) < 256)=true:=Ea (by omega)
 have e2:(to== -2)=false:=Rh h
 have hq:Ga (x:Int) 256:=by unfold Ga;omega
 have t1:((x:Int)).toNat=x:=by simp
 have t2:=Va (i:=x) (n:=256) hx (by unfold maxLen;omega)
 have ht:(row.map i64)[x]? =some (i64 to):=by rw[List.getElem?_map,hto];rfl
 have e3:decide (((l.length+1:Nat):Int) > 0)=true:=Ea (by omega)
 have t3:IntKind.i64.wrap (((l.length+1:Nat):Int) - 1)=(l.length:Int):=by rw[Ba (by omega)];omega
 have t4:((l.length:Int)).toNat=l.length:=by simp
 have t5:IntKind.i64.wrap ((x:Int) - 1)=(x:Int) - 1:=Ba (by omega)
 have hq2:Ga (l.length:Int) (l.length+1):=by unfold Ga;omega
 have hlen:(Ja (Vc l++[e.lo,e.hi,e.to])).length=(l.length+1) * 3:=by rw[ib,List.length_append,Dj];simp;omega
 have w1:Ih 3 (l.length+1) fl (Ja (Vc l++[e.lo,e.hi,e.to])).length:=by rw[hlen];unfold Ih;omega
 have w2:((Ja (Vc l++[e.lo,e.hi,e.to])).length=(l.length+1) * 3)=True:=eq_true hlen
 have g2:=mE (Vc l) e 2 (by omega)
 have g1:=mE (Vc l) e 1 (by omega)
 rw[Dj] at g1 g2
 simp only[h1,h2] at g1 g2
 have b1:(to==to)=true:=by simp
 have b2:((x:Int) - 1==(x:Int) - 1)=true:=by simp
 have w3:(l.length * 3+1+1≤(l.length+1) * 3)=True:=eq_true (by omega)
 have hset:(Ja (Vc l++[e.lo,(x:Int) - 1,to])).set (l.length * 3+1) (.pv (i64 x))=Ja (Vc l++[e.lo,(x:Int),to]):=by
  rw[Li,←Dj,List.set_append_right _ _ (by omega),Nat.add_sub_cancel_left];rfl
 rw[h1,h2] at *
 generalize Vc l++[e.lo,(x:Int) - 1,to]=cs at *
 simp -implicitDefEqProofs only[SP,SA,SQ,sevalprocAttr,ma,Rc,e1,e2,e3,eq_true hq,eq_true hq2,t1,t2,t3,t4,t5,ht,g1,g2,eq_true w1,w2,w3,b1,b2,hset,wa,tidy,zc,ct]
theorem rO (h:to≠ -2) (h1:¬(e.to=to∧e.hi=(x:Int) - 1)):ma (ta call Rc) (fun s=>some (tidy [3,7,8] s)) ⟨ct row (l.length+1) x,[.seq 3 true (Ja (Vc l++[e.lo,e.hi,e.to])) fl false]⟩=
 some (.norm,⟨ct row (l.length+1+1) (x+1:Nat),[.seq 3 true (Ja (Vc l++[e.lo,e.hi,e.to])++Ja [(x:Int),x,to]) fl false]⟩):=by
 have e1:decide ((x:Int) < 256)=true:=Ea (by omega)
 have e2:(to== -2)=false:=Rh h
 have hq:Ga (x:Int) 256:=by unfold Ga;omega
 have t1:((x:Int)).toNat=x:=by simp
 have t2:=Va (i:=x) (n:=256) hx (by unfold maxLen;omega)
 have ht:(row.map i64)[x]? =some (i64 to):=by rw[List.getElem?_map,hto];rfl
 have e3:decide (((l.length+1:Nat):Int) > 0)=true:=Ea (by omega)
 have t3:IntKind.i64.wrap (((l.length+1:Nat):Int) - 1)=(l.length:Int):=by rw[Ba (by omega)];omega
 have t4:((l.length:Int)).toNat=l.length:=by simp
 have t5:IntKind.i64.wrap ((x:Int) - 1)=(x:Int) - 1:=Ba (by omega)
 have hq2:Ga (l.length:Int) (l.length+1):=by unfold Ga;omega
 have hlen:(Ja (Vc l++[e.lo,e.hi,e.to])).length=(l.length+1) * 3:=by rw[ib,List.length_append,Dj];simp;omega
 have w1:Ih 3 (l.length+1) fl (Ja (Vc l++[e.lo,e.hi,e.to])).length:=by rw[hlen];unfold Ih;omega
 have w2:((Ja (Vc l++[e.lo,e.hi,e.to])).length=(l.length+1) * 3)=True:=eq_true hlen
 have w2':((l.length+1) * 3=(Ja (Vc l++[e.lo,e.hi,e.to])).length)=True:=eq_true hlen.symm
 have g2:(Ja (Vc l++[e.lo,e.hi,e.to]))[(Vc l).length+2]? =some (.pv (i64 e.to)):=mE (Vc l) e 2 (by omega)
 have g1:(Ja (Vc l++[e.lo,e.hi,e.to]))[(Vc l).length+1]? =some (.pv (i64 e.hi)):=mE (Vc l) e 1 (by omega)
 rw[Dj] at g1 g2
 have q1:mb (l.length+1+1) 24:=by unfold mb;omega
 generalize Vc l++[e.lo,e.hi,e.to]=cs at *
 by_cases hb1:e.to=to
 ·have b1:(e.to==to)=true:=by simp[hb1]
  have b2:(e.hi==(x:Int) - 1)=false:=Rh fun hh=>h1 ⟨hb1,hh⟩
  simp -implicitDefEqProofs only[SP,SA,SQ,sevalprocAttr,ma,Rc,e1,e2,e3,eq_true hq,eq_true hq2,t1,t2,t3,t4,t5,ht,g1,g2,eq_true w1,w2,w2',eq_true q1,b1,b2,wa,tidy,zc,ct,cj,Qh,AV.aC,AV.Fo,XV]
 ·have b1:(e.to==to)=false:=Rh hb1
  simp -implicitDefEqProofs only[SP,SA,SQ,sevalprocAttr,ma,Rc,e1,e2,e3,eq_true hq,eq_true hq2,t1,t2,t3,t4,t5,ht,g1,g2,eq_true w1,w2,w2',eq_true q1,b1,wa,tidy,zc,ct,cj,Qh,AV.aC,AV.Fo,XV]
end
end Go.AM.B1
namespace Go.AM.B1
open Go.AM
def fe (row:List Int):List Nat→List ef→List ef
 | [],l=>l
 |x::xs,l=>fe row xs (Cf x (row.getD x 0) l)
def Ef (row:List Int):List ef:=fe row (List.range 256) []
def Wd (l:List ef):PV:=if l.isEmpty then .fa else .lit 3 (l.map YE)
theorem ey (x:Int) (l:List ef):Cf x (-2) l=l:=by simp[Cf]
theorem Rv {x to:Int} (h:to≠ -2):Cf x to []=[⟨x,x,to⟩]:=by simp[Cf,h]
theorem fy {x:Int} {l:List ef} {e:ef} (h:e.to≠ -2) (h2:e.hi=x - 1):Cf x e.to (l++[e])=l++[⟨e.lo,x,e.to⟩]:=by simp[Cf,h,h2]
theorem Nt {x to:Int} {l:List ef} {e:ef} (h:to≠ -2) (h2:¬(e.to=to∧e.hi=x - 1)):Cf x to (l++[e])=l++[e]++[⟨x,x,to⟩]:=by
 simp only[Cf,if_neg h,List.getLast?_append,List.getLast?_singleton,Option.some_or,if_neg h2]
theorem hG (H:List ba) (d:Nat) (l:List Int):Pa (Vb H d) (Ja l)=some (l.map i64):=by
 induction l with
 |nil=>rfl
 |cons a l ih=>simp only[Ja,List.map_cons,Pa,jg,Option.bind_some] at ih ⊢;rw[ih];rfl
theorem JK:∀ (l:List ef),chunk 3 true l.length ((Vc l).map i64)=l.map YE
 | []=>rfl
 |e::l=>by
  have:=JK l
  rw[List.length_cons,chunk]
  simp only[Vc,List.flatMap_cons,List.cons_append,List.nil_append,List.map_cons,List.take,List.drop,if_true] at this ⊢
  rw[this];rfl
theorem xM (H:List ba) (id:Nat) (l:List ef) (fl:Nat) (h:H[id]? =some (.seq 3 true (Ja (Vc l)) fl l.isEmpty)):Vb H deep (.own id l.length)=some (Wd l):=by
 have hl:(l.length * 3=(Ja (Vc l)).length)=True:=by rw[ib,Dj];exact eq_self _
 rw[Ac]
 simp only[Vb,h,hl,Bool.true_or,and_self,if_true]
 unfold Wd
 cases hn:l.isEmpty with
 |true=>rfl
 |false=>simp only[Bool.false_eq_true,if_false,hG,Option.map_some,JK]
section
variable (row:List Int) (hrow:row.length=256)
include hrow
theorem IK (call:Xa):∃ fl,fb (ma (ta call Rc) (fun s=>some (tidy [3,7,8] s))) qa ⟨ct row 0 0,[.seq 3 true [] 0 true]⟩=
 some (.exit 0,⟨(ct row (Ef row).length 256).set 9 (.pv (.bool false)),[.seq 3 true (Ja (Vc (Ef row))) fl (Ef row).isEmpty]⟩):=by
 unfold Ef
 generalize hxs:List.range 256=xs
 have key:=Ck (g:=ma (ta call Rc) (fun s=>some (tidy [3,7,8] s)))
  (fun x t=>∃ fl l,fl≤l.length * 3∧l.length≤x∧t=⟨ct row l.length x,[.seq 3 true (Ja (Vc l)) fl l.isEmpty]⟩∧fe row xs []=fe row (xs.drop x) l)
  (fun ex t=>∃ fl,ex= .exit 0∧t=⟨(ct row (fe row xs []).length 256).set 9 (.pv (.bool false)),[.seq 3 true (Ja (Vc (fe row xs []))) fl (fe row xs []).isEmpty]⟩)
  qa 256 0 ⟨ct row 0 (0:Nat),[.seq 3 true [] 0 true]⟩ (by unfold qa;omega) (by omega) ⟨0,[],by simp,by simp,rfl,rfl⟩ ?_ ?_
 ·obtain⟨ex,t,h,_,fl,rfl,rfl⟩:=key
  exact⟨fl,h⟩
 ·rintro x hx t ⟨fl,l,hf,hlx,rfl,hl⟩
  have hd:=bq hx
  rw[hxs] at hd
  obtain⟨to,ht⟩:∃ to,row[x]? =some to:=⟨row[x],by simp[hrow,hx]⟩
  have hgd:row.getD x 0=to:=by simp[List.getD_eq_getElem?_getD,ht]
  rw[hd,fe,hgd] at hl
  by_cases h2:to= -2
  ·rw[h2,ey] at hl
   exact .inl ⟨_,RN call row x to fl hx ht l _ h2,fl,l,hf,by omega,rfl,hl⟩
  rcases List.eq_nil_or_concat l with rfl | ⟨l',e,rfl⟩
  ·rw[Rv h2] at hl
   have hf0:fl=0:=by simpa using hf
   subst hf0
   exact .inl ⟨_,WK call row x to hx ht true h2,0,[⟨x,x,to⟩],by simp,by simp,rfl,hl⟩
  ·simp only[List.concat_eq_append] at *
   have hem:(l'++[e]).isEmpty=false:=by simp
   have hlen:(l'++[e]).length=l'.length+1:=by simp
   rw[hlen] at hf hlx
   rw[hem,hlen,vl]
   by_cases h3:e.to=to∧e.hi=(x:Int) - 1
   ·obtain⟨h3,h4⟩:=h3
    rw[← h3,fy (by rw[h3];exact h2) h4] at hl
    refine .inl ⟨_,zO call row x to fl hx ht l' e (by omega) hf h2 h3 h4,(l'.length+1) * 3,l'++[⟨e.lo,x,e.to⟩],by simp,by simp;omega,?_,hl⟩
    rw[vl];simp
   ·rw[Nt h2 h3] at hl
    refine .inl ⟨_,rO call row x to fl hx ht l' e (by omega) hf h2 h3,fl,_,?_,?_,?_,hl⟩
    ·simp;omega
    ·simp;omega
    ·rw[vl,vl,wD];simp[Ja]
 ·rintro t ⟨fl,l,hf,hlx,rfl,hl⟩
  rw[List.drop_eq_nil_of_le (by rw[← hxs,List.length_range];exact Nat.le_refl _)] at hl
  refine⟨.exit 0,_,?_,rfl,fl,rfl,rfl⟩
  rw[hl]
  have e1:decide (((256:Nat):Int) < 256)=false:=by decide
  simp -implicitDefEqProofs only[SP,SA,SQ,sevalprocAttr,ma,Rc,e1,ct,fe]
theorem NO:Xo [Mh row]=some (Wd (Ef row)):=by
 obtain⟨fl,hl⟩:=IK row hrow (Ca (fun _=>none) 8)
 have ht:=xM [.seq 3 true (Ja (Vc (Ef row))) fl (Ef row).isEmpty] 0 (Ef row) fl rfl
 have h9:(row.map i64).map AV.pv=Ja row:=(vt row).symm
 have p0:((Ja row).length=256)=True:=by rw[ib,hrow];exact eq_self _
 have p1:(256≤(Ja row).length)=True:=by rw[ib,hrow];exact eq_true (Nat.le_refl _)
 have p2:List.take 256 (Ja row)=Ja row:=List.take_of_length_le (by rw[ib,hrow];exact Nat.le_refl _)
 have p3:=Qs row
 have p5:=gD row
 have p6:=hG [] 0 row
 have p8:List.take 256 (row.map i64)=row.map i64:=List.take_of_length_le (by rw[List.length_map,hrow];exact Nat.le_refl _)
 have p7:(256≤(row.map i64).length)=True:=by rw[List.length_map,hrow];exact eq_true (Nat.le_refl _)
 have p4:((row.map i64).length=256)=True:=by rw[List.length_map,hrow];exact eq_self _
 generalize Ef row=es at *
 simp only[tidy,zc,ct] at hl
 simp -implicitDefEqProofs only[Xo,SP,SA,SQ,sevalprocAttr,Jt,h9,p0,p1,p2,p3,p4,p5,p6,p7,p8,qe,gp,tidy,zc]
 rw[hl]
 simp -implicitDefEqProofs only[SP,SA,SQ,sevalprocAttr,ht]
end
end Go.AM.B1
