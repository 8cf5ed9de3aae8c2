/- What functions of the program compute. -/
import Derived.Test.YtdglpnpkgngcdaaGreatT2
set_option linter.unusedVariables false
set_option linter.unusedSimpArgs false
namespace Go.AM.B1
open Go.AM
theorem Eo (A:List ba) (o:ba):(A++[o])[A.length]? =some o:=by simp
theorem zo (A:List ba) (o o':ba):(A++[o]).set A.length o'=A++[o']:=by
 apply List.ext_getElem?
 intro i
 by_cases h:i=A.length
 ·subst h;simp
 ·rw[List.getElem?_set_ne (Ne.symm h)]
  rcases Nat.lt_or_ge i A.length with h1 | h1
  ·rw[List.getElem?_append_left h1,List.getElem?_append_left h1]
  ·rw[List.getElem?_append_right h1,List.getElem?_append_right h1]
   have:i - A.length≠0:=by omega
   obtain⟨k,hk⟩:∃ k,i - A.length=k+1:=⟨i - A.length - 1,by omega⟩
   rw[hk];simp
abbrev u32 (n:Int):PV:= .int .u32 n
abbrev zx (S:PV) (x d bits len i left:Int) (ends:Bool):Tr:=
 ((((((Tr.lf.set 18 (.pv (i64 i))).set 17 (.pv (i64 len))).set 16 (.pv S)).set 9 (.pv (.bool ends))).set 8 (.pv (u32 left))).set 4 (.pv (.rp [i64 d,u32 bits] 0))).set 2 (.pv (i64 x))
def Pz (bits:Int) (i:Nat):Bool:=IntKind.u32.wrap (((BitVec.ofInt IntKind.u32.bits (bits.fdiv (2 ^ min i IntKind.u32.bits)) &&& BitVec.ofInt IntKind.u32.bits 1).toNat:Nat):Int)==1
theorem qx (bits:Int) (i:Nat):(IntKind.u32.wrap (((BitVec.ofInt IntKind.u32.bits (bits.fdiv (2 ^ min i IntKind.u32.bits)) &&& BitVec.ofInt IntKind.u32.bits 1).toNat:Nat):Int)==1)=Pz bits i:=rfl
def nX (left:Int) (i:Nat):Int:=IntKind.u32.wrap (((BitVec.ofInt IntKind.u32.bits left ||| BitVec.ofInt IntKind.u32.bits (IntKind.u32.wrap (1 * 2 ^ min i IntKind.u32.bits))).toNat:Nat):Int)
theorem QJ (left:Int) (i:Nat):IntKind.u32.wrap (((BitVec.ofInt IntKind.u32.bits left ||| BitVec.ofInt IntKind.u32.bits (IntKind.u32.wrap (1 * 2 ^ min i IntKind.u32.bits))).toNat:Nat):Int)=nX left i:=rfl
section
variable (call:ab) (A:List ba) (ss:List PV) (x bits left:Int) (d:Nat) (ends:Bool) (i len:Nat) (hi:i < len) (hl:len=ss.length) (hw:len≤maxLen) (ps:List PV) (first:Int) (hs:ss[i]? =some (.agg [.lit 1 ps,i64 first]))
include hi hl hw hs
theorem bV (hb:Pz bits i=false):
 fa (ta call Db) (fun s=>some (tidy [2,4,8,9,16,17,18] s)) ⟨zx (.lit 2 ss) x d bits len i left ends,A⟩=
  some (.norm,⟨zx (.lit 2 ss) x d bits len (i+1:Nat) left ends,A++[.box [.pv (.lit 1 ps),.pv (i64 first)]]⟩):=by
 have e1:decide ((i:Int) < (len:Int))=true:=Ga (by omega)
 have hq:Fa (i:Int) ss.length:=by unfold Fa;omega
 have t1:((i:Int)).toNat=i:=by simp
 have t2:=Ua hi hw
 have hn:((i:Int) < 0)=False:=by simp
 simp -implicitDefEqProofs only[SP,SA,SQ,sevalprocAttr,fa,Db,e1,eq_true hq,t1,t2,hs,hn,qx,hb,ua,Eo,zo,tidy,Dc,zx]
theorem NT (hb:Pz bits i=true) (qs:List PV) (hp:ps[d]? =some (.lit 2 qs)) (hdl:d < ps.length) (hd:d < 4611686018427387904) (hh:Vk [.lit 2 qs,i64 x]=some (.bool false)):
 fa (ta call Db) (fun s=>some (tidy [2,4,8,9,16,17,18] s)) ⟨zx (.lit 2 ss) x d bits len i left ends,A⟩=
  some (.norm,⟨zx (.lit 2 ss) x d bits len (i+1:Nat) left ends,A++[.box [.pv (.lit 1 ps),.pv (i64 first)]]⟩):=by
 have e1:decide ((i:Int) < (len:Int))=true:=Ga (by omega)
 have hq:Fa (i:Int) ss.length:=by unfold Fa;omega
 have t1:((i:Int)).toNat=i:=by simp
 have t2:=Ua hi hw
 have hn:((i:Int) < 0)=False:=by simp
 have hq2:Fa (d:Int) ps.length:=by unfold Fa;omega
 have t3:((d:Int)).toNat=d:=by simp
 simp -implicitDefEqProofs only[SP,SA,SQ,sevalprocAttr,fa,Db,e1,eq_true hq,eq_true hq2,t1,t2,t3,hs,hn,qx,hb,hp,hh,wg,Xb,ua,Eo,zo,tidy,Dc,zx]
theorem AW (hb:Pz bits i=true) (qs:List PV) (hp:ps[d]? =some (.lit 2 qs)) (hdl:d < ps.length) (hd:d < 4611686018427387904) (hh:Vk [.lit 2 qs,i64 x]=some (.bool true)):
 fa (ta call Db) (fun s=>some (tidy [2,4,8,9,16,17,18] s)) ⟨zx (.lit 2 ss) x d bits len i left ends,A⟩=
  some (.norm,⟨zx (.lit 2 ss) x d bits len (i+1:Nat) (nX left i) (ends||(ps.length==d+1)),A++[.box [.pv (.lit 1 ps),.pv (i64 first)]]⟩):=by
 have e1:decide ((i:Int) < (len:Int))=true:=Ga (by omega)
 have hq:Fa (i:Int) ss.length:=by unfold Fa;omega
 have t1:((i:Int)).toNat=i:=by simp
 have t2:=Ua hi hw
 have hn:((i:Int) < 0)=False:=by simp
 have hq2:Fa (d:Int) ps.length:=by unfold Fa;omega
 have t3:((d:Int)).toNat=d:=by simp
 have t4:IntKind.i64.wrap ((d:Int)+1)=((d+1:Nat):Int):=Da (by omega)
 have t5:((ps.length:Int)==((d+1:Nat):Int))=(ps.length==d+1):=by
  rw[Bool.eq_iff_iff];simp;omega
 cases ends with
 |true=>simp -implicitDefEqProofs only[SP,SA,SQ,sevalprocAttr,fa,Db,e1,eq_true hq,eq_true hq2,t1,t2,t3,t4,t5,hs,hn,qx,QJ,hb,hp,hh,wg,Xb,ua,Eo,zo,tidy,Dc,zx]
 |false=>simp -implicitDefEqProofs only[SP,SA,SQ,sevalprocAttr,fa,Db,e1,eq_true hq,eq_true hq2,t1,t2,t3,t4,t5,hs,hn,qx,QJ,hb,hp,hh,wg,Xb,ua,Eo,zo,tidy,Dc,zx]
end
structure Yb where
 parts:List (List (Int×Int))
 first:Int
def Yd (l:List (Int×Int)):PV:= .lit 2 (Ld l)
def Xd (s:Yb):PV:= .agg [.lit 1 (s.parts.map Yd),i64 s.first]
def fP (l:List (Int×Int)) (x:Int):Bool:=(Gf x 0 (sy l)).2
def Ys (s:Yb) (d:Nat) (x:Int):Bool:=
 match s.parts[d]? with
 |some l=>fP l x
 |none=>false
def rh (x bits:Int) (d:Nat):Nat→List Yb→Int×Bool→Int×Bool
 |_,[],acc=>acc
 |i,s::r,acc=>rh x bits d (i+1) r (if Pz bits i&&Ys s d x then (nX acc.1 i,acc.2||(s.parts.length==d+1)) else acc)
theorem PG (l:List (Int×Int)):Ry (.lit 2 (Ld l))=some l:=by
 have:Ra xz (Ld l)=some l:=by
  induction l with
  |nil=>rfl
  |cons p l ih=>simp only[Ld,List.map_cons,Ra,xz,Option.bind_some] at ih ⊢;rw[ih];rfl
 exact this
theorem vQ {l:List (Int×Int)} (h:l.length * 16≤140737488355328) (x:Int):Vk [Yd l,i64 x]=some (.bool (fP l x)):=by
 simp only[Vk,Yd,PG,Option.bind_some,if_pos h];rfl
def SE (ss:List Yb):List ba:=ss.map fun s=> .box [.pv (.lit 1 (s.parts.map Yd)),.pv (i64 s.first)]
section
variable (call:ab) (H:List ba) (id:Nat) (rest:List AV) (S:PV) (ss:List Yb) (x bits:Int) (d:Nat)
 (hid:H[id]? =some (.box (.pv S::rest))) (hS:Th 2 S (ss.map Xd)) (hw:ss.length≤maxLen) (hd:d < 4611686018427387904)
 (Aa:∀ i s,ss[i]? =some s→Pz bits i=true→d < s.parts.length) (hsz:∀ s∈ss,∀ l∈s.parts,l.length * 16≤140737488355328)
include hid hS hw hd Aa hsz
theorem zq:cj call ui [.ptr id 0,.pv (.agg [i64 d,u32 bits]),.pv (i64 x)] H=
 some (.pv (.Jc [u32 (rh x bits d 0 ss (0,false)).1,.bool (rh x bits d 0 ss (0,false)).2]),H++SE ss):=by
 have ls:=hS.len
 simp only[List.length_map] at ls
 have key:=Pj (g:=fa (ta call Db) (fun s=>some (tidy [2,4,8,9,16,17,18] s)))
  (fun i t=>∃ left ends,t=⟨zx S x d bits ss.length i left ends,H++SE (ss.take i)⟩∧rh x bits d 0 ss (0,false)=rh x bits d i (ss.drop i) (left,ends))
  (fun ex t=>ex= .exit 0∧t=⟨(zx S x d bits ss.length ss.length (rh x bits d 0 ss (0,false)).1 (rh x bits d 0 ss (0,false)).2).set 19 (.pv (.bool false)),H++SE ss⟩)
  oa ss.length 0 ⟨zx S x d bits ss.length (0:Nat) 0 false,H⟩ (by unfold oa;unfold maxLen at hw;omega) (by omega) ⟨0,false,by simp[SE],rfl⟩ ?_ ?_
 ·obtain⟨ex,t,h,_,rfl,rfl⟩:=key
  generalize rh x bits d 0 ss (0,false)=r at *
  simp -implicitDefEqProofs only[SP,SA,SQ,sevalprocAttr,ui,ls,hid,Ip,tidy,Dc,zx,h]
  simp only[zx] at h
  have h':gb (fa (ta call Db) (fun s=>some (tidy [2,4,8,9,16,17,18] s))) oa ⟨((((((Tr.lf.set 18 (.pv (i64 0))).set 17 (.pv (i64 ss.length))).set 16 (.pv S)).set 9 (.pv (.bool false))).set 8 (.pv (u32 0))).set 4 (.pv (.rp [i64 d,u32 bits] 0))).set 2 (.pv (i64 x)),H⟩=_:=h
  simp only[tidy,Dc] at h'
  rw[h']
  simp -implicitDefEqProofs only[SP,SA,SQ,sevalprocAttr,Xb]
 ·rintro i hi t ⟨left,ends,rfl,hb⟩
  have hlit:=hS.lit (i:=i) (by simpa using hi)
  subst hlit
  have hg:(ss.map Xd)[i]? =some (.agg [.lit 1 (ss[i].parts.map Yd),i64 ss[i].first]):=by simp[hi,Xd]
  have hdr:ss.drop i=ss[i]::ss.drop (i+1):=List.drop_eq_getElem_cons hi
  have hJ:H++SE (ss.take (i+1))=H++SE (ss.take i)++[.box [.pv (.lit 1 (ss[i].parts.map Yd)),.pv (i64 ss[i].first)]]:=by
   rw[List.take_succ_eq_append_getElem hi,SE,List.map_append,List.append_assoc];rfl
  rw[hdr,rh] at hb
  cases hbit:Pz bits i with
  |false=>
   rw[hbit] at hb
   refine .inl ⟨_,bV call _ _ x bits left d ends i ss.length hi (by simp) hw _ _ hg hbit,left,ends,by rw[hJ],hb⟩
  |true=>
   have hdl:=Aa i ss[i] (by simp[hi]) hbit
   have hp:(ss[i].parts.map Yd)[d]? =some (.lit 2 (Ld ss[i].parts[d])):=by simp[hdl,Yd]
   have hc:=vQ (hsz ss[i] (List.getElem_mem hi) ss[i].parts[d] (List.getElem_mem hdl)) x
   have hat:Ys ss[i] d x=fP ss[i].parts[d] x:=by simp[Ys,hdl]
   rw[hbit,hat,Bool.true_and] at hb
   cases hh:fP ss[i].parts[d] x with
   |false=>
    rw[hh] at hb hc
    refine .inl ⟨_,NT call _ _ x bits left d ends i ss.length hi (by simp) hw _ _ hg hbit _ hp (by simpa using hdl) hd hc,left,ends,by rw[hJ],hb⟩
   |true=>
    rw[hh] at hb hc
    refine .inl ⟨_,AW call _ _ x bits left d ends i ss.length hi (by simp) hw _ _ hg hbit _ hp (by simpa using hdl) hd hc,_,_,by rw[hJ],?_⟩
    rw[hb]
    simp
 ·rintro t ⟨left,ends,rfl,hb⟩
  rw[List.drop_length] at hb
  simp only[rh] at hb
  refine⟨.exit 0,_,?_,rfl,rfl,rfl⟩
  rw[hb,List.take_length]
  have e1:decide ((ss.length:Int) < (ss.length:Int))=false:=Ia (by omega)
  simp -implicitDefEqProofs only[SP,SA,SQ,sevalprocAttr,fa,Db,e1,zx]
end
end Go.AM.B1
namespace Go.AM.B1
open Go.AM
abbrev Al:=Nat×Int
def Zh (a:Al):PV:= .agg [i64 a.1,u32 a.2]
def UB (l:List Al) (k:Nat):List (PV×PV):=(l.zipIdx k).map fun p=>(Zh p.1,i64 p.2)
theorem FA (a:Al) (l:List Al) (k:Nat):UB (a::l) k=(Zh a,i64 k)::UB l (k+1):=rfl
theorem dG (a:Al):∀ (l:List Al) (k:Nat),UB (l++[a]) k=UB l k++[(Zh a,i64 (k+l.length:Nat))]
 | [],k=>by simp[UB]
 |b::l,k=>by rw[List.cons_append,FA,dG a l (k+1),FA];simp;omega
theorem yC (a b:Al):Zi (.row [1,1]) (Zh a) (Zh b)=some (decide (a=b)):=by
 obtain⟨a1,a2⟩:=a;obtain⟨b1,b2⟩:=b
 simp only[Zh,Zi,dh,Jn,if_true,Option.bind_some,Option.map_some,Bool.and_true,Prod.mk.injEq,Bool.decide_and]
 congr 1
 rw[Bool.eq_iff_iff]
 simp
 intro _
 omega
def Ul (a:Al):List Al→Nat→Option Nat
 | [],_=>none
 |b::l,k=>if a=b then some k else Ul a l (k+1)
theorem eI (a:Al):∀ (l:List Al) (k j:Nat),dm (.row [1,1]) (Zh a) (UB l k) j=some ((Ul a l k).map fun i=>(j+(i - k),i64 i)):=by
 intro l
 induction l with
 |nil=>intro k j;rfl
 |cons b l ih=>
  intro k j
  rw[FA,dm,yC]
  simp only[Option.bind_some,Ul]
  by_cases h:a=b
  ·simp[h]
  ·rw[if_neg h,ih]
   simp only[h,decide_false,Bool.false_eq_true,if_false,Option.some.injEq]
   cases hi:Ul a l (k+1) with
   |none=>rfl
   |some i=>
    have:k+1≤i:=by
     clear ih
     induction l generalizing k with
     |nil=>simp[Ul] at hi
     |cons c l ihl=>
      simp only[Ul] at hi
      split at hi
      ·injection hi with hi;omega
      ·have:=ihl (k+1) hi;omega
    simp only[Option.map_some,Option.some.injEq,Prod.mk.injEq,and_true]
    omega
abbrev Gj (R0 R1:ba) (S:PV) (nl:Bool) (sets:List Al) (rows:ba) (n:Nat) (T:List ba):List ba:=
 R0::R1:: .map (UB sets 0):: .box [.pv S,.mp 2,.uq 4 nl 2 (sets.map Zh),.own 5 n]:: .tok 2 sets.length nl::rows::T
section
variable (call:ab) (R0 R1:ba) (S:PV) (nl:Bool) (sets:List Al) (rows:ba) (n:Nat) (T:List ba) (a:Al)
theorem FU {i:Nat} (h:Ul a sets 0=some i):
 cj call Wd [.ptr 3 0,.pv (Zh a)] (Gj R0 R1 S nl sets rows n T)=some (.pv (.Jc [i64 i,.bool true]),Gj R0 R1 S nl sets rows n T):=by
 have hf:=eI a sets 0 0
 rw[h] at hf
 simp only[Option.map_some] at hf
 have hk:(Zi (.row [1,1]) (Zh a) (Zh a)).isSome=true:=by rw[yC];rfl
 simp only[Zh] at hf hk
 simp -implicitDefEqProofs only[SP,SA,SQ,sevalprocAttr,Zh,Wd,hf,eq_true hk]
theorem gR (h:Ul a sets 0=none) (hl:sets.length=64):
 cj call Wd [.ptr 3 0,.pv (Zh a)] (Gj R0 R1 S nl sets rows n T)=some (.pv (.Jc [i64 0,.bool false]),Gj R0 R1 S nl sets rows n T):=by
 have hf:=eI a sets 0 0
 rw[h] at hf
 simp only[Option.map_none] at hf
 have hk:(Zi (.row [1,1]) (Zh a) (Zh a)).isSome=true:=by rw[yC];rfl
 have e1:(((sets.map Zh).length:Int)==64)=true:=by simp[hl]
 simp only[Zh] at hf hk
 simp -implicitDefEqProofs only[SP,SA,SQ,sevalprocAttr,Wd,Zh,hf,eq_true hk,e1]
theorem EN (h:Ul a sets 0=none) (hl:sets.length < 64):
 cj call Wd [.ptr 3 0,.pv (Zh a)] (Gj R0 R1 S nl sets rows n T)=some (.pv (.Jc [i64 sets.length,.bool true]),Gj R0 R1 S false (sets++[a]) rows n T):=by
 have hf:=eI a sets 0 0
 rw[h] at hf
 simp only[Option.map_none] at hf
 have hk:(Zi (.row [1,1]) (Zh a) (Zh a)).isSome=true:=by rw[yC];rfl
 have e1:((sets.length:Int)==64)=false:=uh (by omega)
 have hp:=dG a sets 0
 rw[Nat.zero_add] at hp
 have q1:xb (sets.length+1) 16:=by unfold xb;omega
 have hlen:(sets.map Zh).length=sets.length:=by simp
 have hlen2:(sets++[a]).length=sets.length+1:=by simp
 have hmap:(sets++[a]).map Zh=sets.map Zh++[Zh a]:=by simp
 unfold Gj
 rw[hp,hlen2,hmap]
 simp only[Zh] at hf hk ⊢
 simp -implicitDefEqProofs only[SP,SA,SQ,sevalprocAttr,Wd,hf,eq_true hk,e1,hlen,eq_true q1,Ai,AV.uC,AV.Xo]
end
end Go.AM.B1
namespace Go.AM.B1
open Go.AM
theorem Dm (n:Nat) (cs:List AV):pa n (.box cs)=(Ra (AV.cut n deep) cs).map .box:=rfl
theorem Im (n:Nat) (es:List (PV×PV)):pa n (.map es)=some (.map es):=rfl
theorem Ps (n sz:Nat) (ag:Bool) (cs:List AV) (fl:Nat) (nl:Bool):pa n (.seq sz ag cs fl nl)=if cs.all (AV.Ze n deep)=true then some (.seq sz ag cs fl nl) else none:=rfl
theorem tm (n sz m:Nat) (nl:Bool):pa n (.tok sz m nl)=some (.tok sz m nl):=rfl
def Kg (ss:List Yb) (a:Al) (x:Int) (sets:List Al):Option (List Al×Int):=
 if (rh x a.2 a.1 0 ss (0,false)).1=0 then some (sets,-2)
 else if (rh x a.2 a.1 0 ss (0,false)).2=true then some (sets,-1)
 else match Ul (a.1+1,(rh x a.2 a.1 0 ss (0,false)).1) sets 0 with
  |some k=>some (sets,(k:Int))
  |none=>if sets.length < 64 then some (sets++[(a.1+1,(rh x a.2 a.1 0 ss (0,false)).1)],(sets.length:Int)) else none
inductive bu (k:Nat) (v:AV) (o:ba):Option (Ex×St)→Prop
 |mk (s:St):s.env.get k=v→s.H[0]? =some o→bu k v o (some (.ret,s))
theorem GC {k:Nat} {v:AV} {o:ba} {s:St}:bu k v o (some (.ret,s))=(s.env.get k=v∧s.H[0]? =some o):=
 propext ⟨fun h=>by cases h with | mk _ h h'=>exact⟨h,h'⟩,fun h=> .mk s h.1 h.2⟩
theorem mr {k:Nat} {v:AV} {o:ba} {r:Option (Ex×St)} (h:bu k v o r):∃ t,r=some (.ret,t)∧t.env.get k=v∧t.H[0]? =some o:=by
 cases h with | mk s h h'=>exact⟨s,rfl,h,h'⟩
def Ja (l:List Int):List AV:=l.map fun n=> .pv (i64 n)
theorem qj (l:List Int) (x:Nat) (v:Int):(Ja l).set x (.pv (i64 v))=Ja (l.set x v):=by simp[Ja,List.map_set]
theorem pb (l:List Int):(Ja l).length=l.length:=by simp[Ja]
theorem yq (n d:Nat) (l:List Int):Ra (AV.cut n d) (Ja l)=some (Ja l):=by
 induction l with
 |nil=>rfl
 |cons a l ih=>simp only[Ja,List.map_cons,Ra,Ba,Option.bind_some] at ih ⊢;rw[ih];rfl
abbrev nm (i x:Int):Tr:=(((Tr.lf.set 30 (.pv (i64 x))).set 4 (.ptr 6 0)).set 3 (.pv (i64 i))).set 0 (.ptr 3 0)
section
variable (R0 R1:ba) (S:PV) (nl:Bool) (sets:List Al) (rows:ba) (n:Nat) (row:List Int) (ss:List Yb) (i x:Nat) (a:Al)
 (h0:pa 7 R0=some R0) (h1:pa 7 R1=some R1) (hr:pa 7 rows=some rows) (hrow:row.length=256) (hx:x < 256)
 (hi:i < sets.length) (ha:(sets.map Zh)[i]? =some (.agg [i64 a.1,u32 a.2])) (had:a.1 < 4611686018427387904)
 (hS:Th 2 S (ss.map Xd)) (hw:ss.length≤maxLen)
 (Aa:∀ i s,ss[i]? =some s→Pz a.2 i=true→a.1 < s.parts.length) (hsz:∀ s∈ss,∀ l∈s.parts,l.length * 16≤140737488355328)
include h0 h1 hr hrow hx hi ha had hS hw Aa hsz
theorem RO (hb:(rh x a.2 a.1 0 ss (0,false)).1=0):
 Pb (Ca Ea 7) [0,3,4,30] Ka 7 ⟨nm i x,Gj R0 R1 S nl sets rows n [.box (Ja row)]⟩=
  some (.norm,⟨nm i (x+1:Nat),Gj R0 R1 S nl sets rows n [.box (Ja (row.set x (-2)))]⟩):=by
 have e1:decide ((x:Int) < 256)=true:=Ga (by omega)
 have hlen:(sets.map Zh).length=sets.length:=by simp
 have hq:Fa (i:Int) sets.length:=by unfold Fa;omega
 have hq2:Fa (x:Int) 256:=by unfold Fa;omega
 have t1:((i:Int)).toNat=i:=by simp
 have t3:((x:Int)).toNat=x:=by simp
 have t2:=Ua (i:=x) (n:=256) hx (by unfold maxLen;omega)
 have hbeh:=zq (Ca Ea 6) (Gj R0 R1 S nl sets rows n [.box (Ja row)]) 3 _ S ss x a.2 a.1 rfl hS hw had Aa hsz
 rw[hb] at hbeh
 have hle:x+1≤(Ja row).length:=by rw[pb];omega
 have hz:(((0:Nat)+x+1)≤(Ja row).length)=True:=by simp only[eq_iff_iff,iff_true];omega
 simp only[Gj,List.cons_append,List.nil_append] at hbeh
 generalize (rh x a.2 a.1 0 ss (0,false)).2=ends at *
 simp -implicitDefEqProofs only[SP,SA,SQ,sevalprocAttr,Pb,fa,Ka,Ea,e1,hlen,eq_true hq,eq_true hq2,t1,t2,t3,ha,hbeh,hz,eq_true hle,qj,ua,ga,za,Dm,Im,tm,Ba,yq,AV.cut,Xb,h0,h1,hr,nm,Gj]
theorem kT (hb:(rh x a.2 a.1 0 ss (0,false)).1≠0) (hb2:(rh x a.2 a.1 0 ss (0,false)).2=true):
 Pb (Ca Ea 7) [0,3,4,30] Ka 7 ⟨nm i x,Gj R0 R1 S nl sets rows n [.box (Ja row)]⟩=
  some (.norm,⟨nm i (x+1:Nat),Gj R0 R1 S nl sets rows n [.box (Ja (row.set x (-1)))]⟩):=by
 have e1:decide ((x:Int) < 256)=true:=Ga (by omega)
 have hlen:(sets.map Zh).length=sets.length:=by simp
 have hq:Fa (i:Int) sets.length:=by unfold Fa;omega
 have hq2:Fa (x:Int) 256:=by unfold Fa;omega
 have t1:((i:Int)).toNat=i:=by simp
 have t3:((x:Int)).toNat=x:=by simp
 have t2:=Ua (i:=x) (n:=256) hx (by unfold maxLen;omega)
 have hbeh:=zq (Ca Ea 6) (Gj R0 R1 S nl sets rows n [.box (Ja row)]) 3 _ S ss x a.2 a.1 rfl hS hw had Aa hsz
 rw[hb2] at hbeh
 have hle:x+1≤(Ja row).length:=by rw[pb];omega
 have hz:(((0:Nat)+x+1)≤(Ja row).length)=True:=by simp only[eq_iff_iff,iff_true];omega
 simp only[Gj,List.cons_append,List.nil_append] at hbeh
 have e4:=uh hb
 generalize (rh x a.2 a.1 0 ss (0,false)).1=left at *
 simp -implicitDefEqProofs only[SP,SA,SQ,sevalprocAttr,Pb,fa,Ka,Ea,e1,hlen,eq_true hq,eq_true hq2,t1,t2,t3,ha,hbeh,e4,hz,eq_true hle,qj,ua,ga,za,Dm,Im,tm,Ba,yq,AV.cut,Xb,h0,h1,hr,nm,Gj]
theorem eT (hb:(rh x a.2 a.1 0 ss (0,false)).1≠0) (hb2:(rh x a.2 a.1 0 ss (0,false)).2=false) {k:Nat} (hk:Ul (a.1+1,(rh x a.2 a.1 0 ss (0,false)).1) sets 0=some k):
 Pb (Ca Ea 7) [0,3,4,30] Ka 7 ⟨nm i x,Gj R0 R1 S nl sets rows n [.box (Ja row)]⟩=
  some (.norm,⟨nm i (x+1:Nat),Gj R0 R1 S nl sets rows n [.box (Ja (row.set x k))]⟩):=by
 have e1:decide ((x:Int) < 256)=true:=Ga (by omega)
 have hlen:(sets.map Zh).length=sets.length:=by simp
 have hq:Fa (i:Int) sets.length:=by unfold Fa;omega
 have hq2:Fa (x:Int) 256:=by unfold Fa;omega
 have t1:((i:Int)).toNat=i:=by simp
 have t3:((x:Int)).toNat=x:=by simp
 have t2:=Ua (i:=x) (n:=256) hx (by unfold maxLen;omega)
 have hbeh:=zq (Ca Ea 6) (Gj R0 R1 S nl sets rows n [.box (Ja row)]) 3 _ S ss x a.2 a.1 rfl hS hw had Aa hsz
 rw[hb2] at hbeh
 have hle:x+1≤(Ja row).length:=by rw[pb];omega
 have hz:(((0:Nat)+x+1)≤(Ja row).length)=True:=by simp only[eq_iff_iff,iff_true];omega
 simp only[Gj,List.cons_append,List.nil_append] at hbeh
 have e4:=uh hb
 have t5:IntKind.i64.wrap ((a.1:Int)+1)=((a.1+1:Nat):Int):=Da (by omega)
 have hmet:=FU (Ca Ea 6) R0 R1 S nl sets rows n (.box (Ja row)::SE ss) (a.1+1,(rh x a.2 a.1 0 ss (0,false)).1) hk
 simp only[Gj,Zh] at hmet
 generalize (rh x a.2 a.1 0 ss (0,false)).1=left at *
 simp -implicitDefEqProofs only[SP,SA,SQ,sevalprocAttr,Pb,fa,Ka,Ea,e1,hlen,eq_true hq,eq_true hq2,t1,t2,t3,ha,hbeh,hmet,t5,e4,hz,eq_true hle,qj,ua,ga,za,Dm,Im,tm,Ba,yq,AV.cut,Xb,h0,h1,hr,nm,Gj]
theorem TR (hb:(rh x a.2 a.1 0 ss (0,false)).1≠0) (hb2:(rh x a.2 a.1 0 ss (0,false)).2=false) (hk:Ul (a.1+1,(rh x a.2 a.1 0 ss (0,false)).1) sets 0=none) (hl:sets.length < 64):
 Pb (Ca Ea 7) [0,3,4,30] Ka 7 ⟨nm i x,Gj R0 R1 S nl sets rows n [.box (Ja row)]⟩=
  some (.norm,⟨nm i (x+1:Nat),Gj R0 R1 S false (sets++[(a.1+1,(rh x a.2 a.1 0 ss (0,false)).1)]) rows n [.box (Ja (row.set x (sets.length:Int)))]⟩):=by
 have e1:decide ((x:Int) < 256)=true:=Ga (by omega)
 have hlen:(sets.map Zh).length=sets.length:=by simp
 have hq:Fa (i:Int) sets.length:=by unfold Fa;omega
 have hq2:Fa (x:Int) 256:=by unfold Fa;omega
 have t1:((i:Int)).toNat=i:=by simp
 have t3:((x:Int)).toNat=x:=by simp
 have t2:=Ua (i:=x) (n:=256) hx (by unfold maxLen;omega)
 have hbeh:=zq (Ca Ea 6) (Gj R0 R1 S nl sets rows n [.box (Ja row)]) 3 _ S ss x a.2 a.1 rfl hS hw had Aa hsz
 rw[hb2] at hbeh
 have hle:x+1≤(Ja row).length:=by rw[pb];omega
 have hz:(((0:Nat)+x+1)≤(Ja row).length)=True:=by simp only[eq_iff_iff,iff_true];omega
 simp only[Gj,List.cons_append,List.nil_append] at hbeh
 have e4:=uh hb
 have t5:IntKind.i64.wrap ((a.1:Int)+1)=((a.1+1:Nat):Int):=Da (by omega)
 have hmet:=EN (Ca Ea 6) R0 R1 S nl sets rows n (.box (Ja row)::SE ss) (a.1+1,(rh x a.2 a.1 0 ss (0,false)).1) hk hl
 simp only[Gj,Zh] at hmet ⊢
 generalize (rh x a.2 a.1 0 ss (0,false)).1=left at *
 simp -implicitDefEqProofs only[SP,SA,SQ,sevalprocAttr,Pb,fa,Ka,Ea,e1,hlen,eq_true hq,eq_true hq2,t1,t2,t3,ha,hbeh,hmet,t5,e4,hz,eq_true hle,qj,ua,ga,za,Dm,Im,tm,Ba,yq,AV.cut,Xb,h0,h1,hr,nm,Gj]
end
section
variable (R0 R1:ba) (S:PV) (nl:Bool) (sets:List Al) (rows:ba) (n:Nat) (row:List Int) (ss:List Yb) (i x:Nat) (a:Al)
 (hrow:row.length=256) (hx:x < 256)
 (hi:i < sets.length) (ha:(sets.map Zh)[i]? =some (.agg [i64 a.1,u32 a.2])) (had:a.1 < 4611686018427387904)
 (hS:Th 2 S (ss.map Xd)) (hw:ss.length≤maxLen)
 (Aa:∀ i s,ss[i]? =some s→Pz a.2 i=true→a.1 < s.parts.length) (hsz:∀ s∈ss,∀ l∈s.parts,l.length * 16≤140737488355328)
include hrow hx hi ha had hS hw Aa hsz
theorem HO (hb:(rh x a.2 a.1 0 ss (0,false)).1≠0) (hb2:(rh x a.2 a.1 0 ss (0,false)).2=false) (hk:Ul (a.1+1,(rh x a.2 a.1 0 ss (0,false)).1) sets 0=none) (hl:sets.length=64):
 bu 2 (.pv (.bool false)) R0 (Pb (Ca Ea 7) [0,3,4,30] Ka 7 ⟨nm i x,Gj R0 R1 S nl sets rows n [.box (Ja row)]⟩):=by
 have e1:decide ((x:Int) < 256)=true:=Ga (by omega)
 have hlen:(sets.map Zh).length=sets.length:=by simp
 have hq:Fa (i:Int) sets.length:=by unfold Fa;omega
 have hq2:Fa (x:Int) 256:=by unfold Fa;omega
 have t1:((i:Int)).toNat=i:=by simp
 have t3:((x:Int)).toNat=x:=by simp
 have t2:=Ua (i:=x) (n:=256) hx (by unfold maxLen;omega)
 have hbeh:=zq (Ca Ea 6) (Gj R0 R1 S nl sets rows n [.box (Ja row)]) 3 _ S ss x a.2 a.1 rfl hS hw had Aa hsz
 rw[hb2] at hbeh
 have hle:x+1≤(Ja row).length:=by rw[pb];omega
 have hz:(((0:Nat)+x+1)≤(Ja row).length)=True:=by simp only[eq_iff_iff,iff_true];omega
 simp only[Gj,List.cons_append,List.nil_append] at hbeh
 have e4:=uh hb
 have t5:IntKind.i64.wrap ((a.1:Int)+1)=((a.1+1:Nat):Int):=Da (by omega)
 have hmet:=gR (Ca Ea 6) R0 R1 S nl sets rows n (.box (Ja row)::SE ss) (a.1+1,(rh x a.2 a.1 0 ss (0,false)).1) hk hl
 simp only[Gj,Zh] at hmet
 generalize (rh x a.2 a.1 0 ss (0,false)).1=left at *
 simp -implicitDefEqProofs only[SP,SA,SQ,sevalprocAttr,Pb,fa,Ka,Ea,e1,hlen,eq_true hq,eq_true hq2,t1,t2,t3,ha,hbeh,hmet,t5,e4,GC,hz,eq_true hle,qj,ua,nm,Gj]
end
end Go.AM.B1
namespace Go.AM.B1
open Go.AM
def Qk (ss:List Yb) (a:Al):List Nat→List Al×List Int→Option (List Al×List Int)
 | [],r=>some r
 |x::xs,r=>match Kg ss a x r.1 with
  |some p=>Qk ss a xs (p.1,r.2.set x p.2)
  |none=>none
theorem ct {ss:List Yb} {a:Al} {x:Nat} {xs:List Nat} {r:List Al×List Int} (h:Kg ss a x r.1=none):Qk ss a (x::xs) r=none:=by
 rw[Qk,h]
theorem vt {ss:List Yb} {a:Al} {x:Nat} {xs:List Nat} {r:List Al×List Int} {p:List Al×Int} (h:Kg ss a x r.1=some p):Qk ss a (x::xs) r=Qk ss a xs (p.1,r.2.set x p.2):=by
 rw[Qk,h]
theorem dq {n x:Nat} (h:x < n):(List.range n).drop x=x::(List.range n).drop (x+1):=by
 rw[List.drop_eq_getElem_cons (by simpa using h)];simp
theorem RB {ss:List Yb} {a:Al} {x:Int} {sets:List Al} {r:List Al×Int} (h:Kg ss a x sets=some r) (hl:sets.length≤64):r.1.length≤64∧∃ t,r.1=sets++t:=by
 unfold Kg at h
 split at h
 ·injection h with h;subst h;exact⟨hl,[],by simp⟩
 ·split at h
  ·injection h with h;subst h;exact⟨hl,[],by simp⟩
  ·split at h
   ·injection h with h;subst h;exact⟨hl,[],by simp⟩
   ·split at h
    ·injection h with h;subst h;exact⟨by simp;omega,_,rfl⟩
    ·cases h
section
variable (R0 R1:ba) (S:PV) (rows:ba) (n:Nat) (ss:List Yb)
 (h0:pa 7 R0=some R0) (h1:pa 7 R1=some R1) (hr:pa 7 rows=some rows)
 (hS:Th 2 S (ss.map Xd)) (hw:ss.length≤maxLen)
 (hsz:∀ s∈ss,∀ l∈s.parts,l.length * 16≤140737488355328)
include h0 h1 hr hS hw hsz
theorem YK {nl:Bool} {sets:List Al} {row:List Int} {i x:Nat} {a:Al} (hrow:row.length=256) (hx:x < 256) (ha:sets[i]? =some a) (had:a.1 < 4611686018427387904) (hl:sets.length≤64)
 (Aa:∀ i s,ss[i]? =some s→Pz a.2 i=true→a.1 < s.parts.length):
 (∀ r,Kg ss a x sets=some r→∃ nl',Pb (Ca Ea 7) [0,3,4,30] Ka 7 ⟨nm i x,Gj R0 R1 S nl sets rows n [.box (Ja row)]⟩=
  some (.norm,⟨nm i (x+1:Nat),Gj R0 R1 S nl' r.1 rows n [.box (Ja (row.set x r.2))]⟩))∧
 (Kg ss a x sets=none→bu 2 (.pv (.bool false)) R0 (Pb (Ca Ea 7) [0,3,4,30] Ka 7 ⟨nm i x,Gj R0 R1 S nl sets rows n [.box (Ja row)]⟩)):=by
 have hi:i < sets.length:=(List.getElem?_eq_some_iff.1 ha).1
 have ha':(sets.map Zh)[i]? =some (.agg [i64 a.1,u32 a.2]):=by rw[List.getElem?_map,ha];rfl
 by_cases hb:(rh x a.2 a.1 0 ss (0,false)).1=0
 ·have hst:=(show Kg ss a x sets=some (sets,-2) by unfold Kg;rw[if_pos hb])
  rw[hst]
  exact⟨fun r e=>by injection e with e;subst e;exact⟨nl,RO R0 R1 S nl sets rows n row ss i x a h0 h1 hr hrow hx hi ha' had hS hw Aa hsz hb⟩,fun e=>by cases e⟩
 by_cases hb2:(rh x a.2 a.1 0 ss (0,false)).2=true
 ·have hst:=(show Kg ss a x sets=some (sets,-1) by unfold Kg;rw[if_neg hb,if_pos hb2])
  rw[hst]
  exact⟨fun r e=>by injection e with e;subst e;exact⟨nl,kT R0 R1 S nl sets rows n row ss i x a h0 h1 hr hrow hx hi ha' had hS hw Aa hsz hb hb2⟩,fun e=>by cases e⟩
 have hb3:(rh x a.2 a.1 0 ss (0,false)).2=false:=by simpa using hb2
 cases hk:Ul (a.1+1,(rh x a.2 a.1 0 ss (0,false)).1) sets 0 with
 |some k=>
  have hst:=(show Kg ss a x sets=some (sets,(k:Int)) by unfold Kg;rw[if_neg hb,if_neg hb2,hk])
  rw[hst]
  exact⟨fun r e=>by injection e with e;subst e;exact⟨nl,eT R0 R1 S nl sets rows n row ss i x a h0 h1 hr hrow hx hi ha' had hS hw Aa hsz hb hb3 hk⟩,fun e=>by cases e⟩
 |none=>
  by_cases hlt:sets.length < 64
  ·have hst:=(show Kg ss a x sets=some (sets++[(a.1+1,(rh x a.2 a.1 0 ss (0,false)).1)],(sets.length:Int)) by unfold Kg;rw[if_neg hb,if_neg hb2,hk];simp only[if_pos hlt])
   rw[hst]
   exact⟨fun r e=>by injection e with e;subst e;exact⟨false,TR R0 R1 S nl sets rows n row ss i x a h0 h1 hr hrow hx hi ha' had hS hw Aa hsz hb hb3 hk hlt⟩,fun e=>by cases e⟩
  ·have hst:=(show Kg ss a x sets=none by unfold Kg;rw[if_neg hb,if_neg hb2,hk];simp only[if_neg hlt])
   rw[hst]
   exact⟨fun r e=>(by cases e),fun _=>HO R0 R1 S nl sets rows n row ss i x a hrow hx hi ha' had hS hw Aa hsz hb hb3 hk (by omega)⟩
theorem qS {nl:Bool} {sets:List Al} {row:List Int} {i:Nat} {a:Al} (hrow:row.length=256) (ha:sets[i]? =some a) (had:a.1 < 4611686018427387904) (hl:sets.length≤64)
 (Aa:∀ i s,ss[i]? =some s→Pz a.2 i=true→a.1 < s.parts.length):
 (∀ r,Qk ss a (List.range 256) (sets,row)=some r→∃ nl',gb (fa (ta (Ca Ea 7) Ka) (ga 7 [0,3,4,30])) oa ⟨nm i 0,Gj R0 R1 S nl sets rows n [.box (Ja row)]⟩=
  some (.exit 2,⟨(nm i 256).set 31 (.pv (.bool false)),Gj R0 R1 S nl' r.1 rows n [.box (Ja r.2)]⟩)∧r.1.length≤64∧r.2.length=256∧∃ t,r.1=sets++t)∧
 (Qk ss a (List.range 256) (sets,row)=none→bu 2 (.pv (.bool false)) R0 (gb (fa (ta (Ca Ea 7) Ka) (ga 7 [0,3,4,30])) oa ⟨nm i 0,Gj R0 R1 S nl sets rows n [.box (Ja row)]⟩)):=by
 generalize hxs:List.range 256=xs
 have key:=Pj (g:=Pb (Ca Ea 7) [0,3,4,30] Ka 7)
  (fun x t=>∃ nl' sets' row',t=⟨nm i x,Gj R0 R1 S nl' sets' rows n [.box (Ja row')]⟩∧Qk ss a xs (sets,row)=Qk ss a (xs.drop x) (sets',row')∧sets'.length≤64∧row'.length=256∧∃ t,sets'=sets++t)
  (fun ex t=>(∃ r,ex= .exit 2∧Qk ss a xs (sets,row)=some r∧∃ nl',t=⟨(nm i 256).set 31 (.pv (.bool false)),Gj R0 R1 S nl' r.1 rows n [.box (Ja r.2)]⟩∧r.1.length≤64∧r.2.length=256∧∃ t,r.1=sets++t)∨
   (ex= .ret∧Qk ss a xs (sets,row)=none∧t.env.get 2= .pv (.bool false)∧t.H[0]? =some R0))
  oa 256 0 ⟨nm i (0:Nat),Gj R0 R1 S nl sets rows n [.box (Ja row)]⟩ (by unfold oa;omega) (by omega) ⟨nl,sets,row,rfl,rfl,hl,hrow,[],by simp⟩ ?_ ?_
 ·obtain⟨ex,t,h,_,hq⟩:=key
  have h':gb (fa (ta (Ca Ea 7) Ka) (ga 7 [0,3,4,30])) oa ⟨nm i 0,Gj R0 R1 S nl sets rows n [.box (Ja row)]⟩=some (ex,t):=h
  rw[h']
  rcases hq with⟨r,rfl,hr',nl',rfl,q1,q2,q3⟩ | ⟨rfl,hr',hg,hg2⟩
  ·refine⟨fun r2 e=> ?_,fun e=> ?_⟩
   ·rw[hr'] at e;injection e with e;subst e;exact⟨nl',rfl,q1,q2,q3⟩
   ·rw[hr'] at e;cases e
  ·refine⟨fun r2 e=> ?_,fun _=> .mk _ hg hg2⟩
   rw[hr'] at e;cases e
 ·rintro x hx t ⟨nl',sets',row',rfl,hrs,hl',hrow',tl,hts⟩
  have ha':sets'[i]? =some a:=by
   rw[hts,List.getElem?_append_left (List.getElem?_eq_some_iff.1 ha).1];exact ha
  have hd:=dq hx
  rw[hxs] at hd
  have hsr:=YK R0 R1 S rows n ss h0 h1 hr hS hw hsz (nl:=nl') hrow' hx ha' had hl' Aa
  rw[hd] at hrs
  cases hst:Kg ss a x sets' with
  |none=>
   rw[ct hst] at hrs
   obtain⟨t,g1,g2,g3⟩:=mr (hsr.2 hst)
   exact .inr ⟨.ret,t,g1,rfl,.inr ⟨rfl,hrs,g2,g3⟩⟩
  |some r=>
   rw[vt hst] at hrs
   obtain⟨nl2,g1⟩:=hsr.1 r hst
   obtain⟨k1,t2,k2⟩:=RB hst hl'
   exact .inl ⟨_,g1,nl2,r.1,row'.set x r.2,rfl,hrs,k1,by simpa using hrow',tl++t2,by rw[k2,hts,List.append_assoc]⟩
 ·rintro t ⟨nl',sets',row',rfl,hrs,hl',hrow',tl,hts⟩
  rw[List.drop_eq_nil_of_le (by rw[← hxs,List.length_range];exact Nat.le_refl _)] at hrs
  refine⟨.exit 2,_,?_,rfl,.inl ⟨(sets',row'),rfl,hrs,nl',rfl,hl',hrow',tl,hts⟩⟩
  have e1:decide (((256:Nat):Int) < 256)=false:=by decide
  simp -implicitDefEqProofs only[SP,SA,SQ,sevalprocAttr,Pb,fa,Ka,e1,nm,Gj]
end
end Go.AM.B1
namespace Go.AM.B1
open Go.AM
def Ug (rs:List (List Int)):ba:= .seq 256 true (rs.flatMap Ja) 0 rs.isEmpty
theorem Js (l:List Int):Ja l=(l.map i64).map .pv:=by simp[Ja]
theorem Hs (l:List Int):He (Ja l)=some (l.map i64):=by
 rw[Js]
 induction l with
 |nil=>rfl
 |cons a l ih=>simp only[List.map_cons,He,ih,Option.map_some]
theorem KE (l:List Int):(Ja l).all AV.one=true:=by
 induction l with
 |nil=>rfl
 |cons a l ih=>simp only[Ja,List.map_cons,List.all_cons,AV.one,Bool.true_and] at ih ⊢;exact ih
theorem tW:List.map AV.pv (List.replicate 256 (PV.int .i64 0))=Ja (List.replicate 256 0):=by
 simp only[Ja,List.map_replicate]
theorem uy {α:Type}:∀ (vs cs pre:List α),cs.length=vs.length→na (pre++cs) pre.length vs=pre++vs
 | [],cs,pre,h=>by simp at h;subst h;rfl
 |v::vs,c::cs,pre,h=>by
  rw[na]
  have h1:(pre++c::cs).set pre.length v=(pre++[v])++cs:=by
   rw[List.set_append_right _ _ (Nat.le_refl _)];simp
  rw[h1]
  have:=uy vs cs (pre++[v]) (by simpa using h)
  simp only[List.length_append,List.length_cons,List.length_nil,Nat.zero_add] at this
  rw[this];simp
 |_::_,[],_,h=>by simp at h
theorem sw (n d:Nat) (rs:List (List Int)):(rs.flatMap Ja).all (AV.Ze n d)=true:=by
 rw[List.all_eq_true]
 intro v hv
 rw[List.mem_flatMap] at hv
 obtain⟨r,_,hv⟩:=hv
 simp only[Ja,List.mem_map] at hv
 obtain⟨x,_,rfl⟩:=hv
 cases d <;> rfl
theorem wE:∀ {rs:List (List Int)},(∀ r∈rs,r.length=256)→(rs.flatMap Ja).length=rs.length * 256
 | [],_=>rfl
 |r::rs,h=>by
  have:=wE (rs:=rs) (fun x hx=>h x (by simp[hx]))
  simp only[List.flatMap_cons,List.length_append,pb,h r (by simp),this,List.length_cons]
  omega
abbrev XA (i:Int):Tr:=(Tr.lf.set 3 (.pv (i64 i))).set 0 (.ptr 3 0)
section
variable (R0 R1:ba) (S:PV) (nl:Bool) (sets:List Al) (rs:List (List Int)) (ss:List Yb) (i:Nat)
 (h0:pa 7 R0=some R0) (h1:pa 7 R1=some R1) (g0:pa 6 R0=some R0) (g1:pa 6 R1=some R1)
 (hi:i < sets.length) (hl:sets.length≤64) (hrl:rs.length≤64) (hrr:∀ r∈rs,r.length=256)
include h0 h1 g0 g1 hi hl hrl hrr
theorem ZP (nl':Bool) (sets':List Al) (row:List Int) (hrow:row.length=256)
 (hrowL:gb (fa (ta (Ca Ea 7) Ka) (ga 7 [0,3,4,30])) oa ⟨nm i 0,Gj R0 R1 S nl sets (Ug rs) rs.length [.box (Ja (List.replicate 256 0))]⟩=
  some (.exit 2,⟨(nm i 256).set 31 (.pv (.bool false)),Gj R0 R1 S nl' sets' (Ug rs) rs.length [.box (Ja row)]⟩)):
 Pb (Ca Ea 7) [0,3] Ab 6 ⟨XA i,Gj R0 R1 S nl sets (Ug rs) rs.length []⟩=
  some (.norm,⟨XA (i+1:Nat),Gj R0 R1 S nl' sets' (Ug (rs++[row])) (rs.length+1) []⟩):=by
 have hlen:(sets.map Zh).length=sets.length:=by simp
 have e1:decide ((i:Int) < (sets.length:Int))=true:=Ga (by omega)
 have t2:=Ua (i:=i) (n:=64) (by omega) (by unfold maxLen;omega)
 have p0:((Ja row).length=256)=True:=by rw[pb,hrow];exact eq_self _
 have p1:(256≤(Ja row).length)=True:=by rw[pb,hrow];exact eq_true (Nat.le_refl _)
 have p2:List.take 256 (Ja row)=Ja row:=List.take_of_length_le (by rw[pb,hrow];exact Nat.le_refl _)
 have p3:=Hs row
 have p4:((row.map i64).length=256)=True:=by rw[List.length_map,hrow];exact eq_self _
 have p5:(256≤(Ja (List.replicate 256 0)).length)=True:=by rw[pb,List.length_replicate];exact eq_true (Nat.le_refl _)
 have p6:na (Ja (List.replicate 256 0)) 0 (Ja row)=Ja row:=by
  have:=uy (Ja row) (Ja (List.replicate 256 0)) [] (by rw[pb,pb,hrow,List.length_replicate])
  rw[List.nil_append,List.nil_append] at this;exact this
 have p7:=KE row
 have p8:List.take 256 (row.map i64)=row.map i64:=List.take_of_length_le (by rw[List.length_map,hrow];exact Nat.le_refl _)
 have p9:(row.map i64).map AV.pv=Ja row:=(Js row).symm
 have q1:(rs.length * 256=(rs.flatMap Ja).length)=True:=by rw[wE hrr];exact eq_self _
 have q2:xb (rs.length+1) 2048:=by unfold xb;omega
 have q3:(rs++[row]).flatMap Ja=rs.flatMap Ja++Ja row:=by rw[List.flatMap_append,List.flatMap_cons,List.flatMap_nil,List.append_nil]
 have q4:(rs++[row]).isEmpty=false:=by cases rs <;> rfl
 have q5:=sw 7 6 rs
 have q6:=sw 6 6 (rs++[row])
 rw[q3] at q6
 simp only[nm,Gj,Ug,Int.cast_ofNat_Int] at hrowL
 unfold Gj Ug
 rw[q3,q4]
 have hz2:=tW
 generalize hz:List.replicate 256 (0:Int)=zs at *
 simp -implicitDefEqProofs only[SP,SA,SQ,sevalprocAttr,-List.reduceReplicate,Pb,fa,Ab,hlen,e1,qb,ga,za,Dm,Im,tm,Ps,Ba,yq,AV.cut,Xb,h0,h1,g0,g1,XA,hz2,q5]
 rw[hrowL]
 simp -implicitDefEqProofs only[SP,SA,SQ,sevalprocAttr,-List.reduceReplicate,List.append_nil,hlen,t2,p0,p1,p2,p3,p4,p5,p6,p7,p8,p9,q1,eq_true q2,q5,q6,Ai,AV.uC,AV.Xo,hz2,yj,ga,za,Dm,Im,tm,Ps,Ba,yq,AV.cut,Xb,h0,h1,g0,g1]
end
end Go.AM.B1
namespace Go.AM.B1
open Go.AM
theorem wrap_u32 {n:Nat} (h:n < 4294967296):IntKind.u32.wrap (n:Int)=(n:Int):=by
 have e:IntKind.u32.wrap (n:Int)=(n:Int) % 4294967296:=by
  simp[IntKind.signed,IntKind.wrap,IntKind.bits]
 rw[e];omega
theorem ZR {a b:Nat} (ha:a < 4294967296) (hb:b < 4294967296):(BitVec.ofInt IntKind.u32.bits (a:Int) &&& BitVec.ofInt IntKind.u32.bits (b:Int)).toNat=a &&& b:=by
 show (BitVec.ofInt 32 (a:Int) &&& BitVec.ofInt 32 (b:Int)).toNat=_
 rw[BitVec.toNat_and,BitVec.ofInt_natCast,BitVec.ofInt_natCast,BitVec.toNat_ofNat,BitVec.toNat_ofNat,Nat.mod_eq_of_lt ha,Nat.mod_eq_of_lt hb]
theorem xV {a b:Nat} (ha:a < 4294967296) (hb:b < 4294967296):(BitVec.ofInt IntKind.u32.bits (a:Int) ||| BitVec.ofInt IntKind.u32.bits (b:Int)).toNat=a ||| b:=by
 show (BitVec.ofInt 32 (a:Int) ||| BitVec.ofInt 32 (b:Int)).toNat=_
 rw[BitVec.toNat_or,BitVec.ofInt_natCast,BitVec.ofInt_natCast,BitVec.toNat_ofNat,BitVec.toNat_ofNat,Nat.mod_eq_of_lt ha,Nat.mod_eq_of_lt hb]
theorem pJ {n i:Nat} (hn:n < 4294967296) (hi:i < 32):Pz (n:Int) i=n.testBit i:=by
 have hm:min i IntKind.u32.bits=i:=by show min i 32=i;omega
 have hf:(n:Int).fdiv (2 ^ i)=((n / 2 ^ i:Nat):Int):=by
  rw[show ((2:Int) ^ i)=((2 ^ i:Nat):Int) by push_cast;rfl]
  exact (Int.ofNat_fdiv n (2 ^ i)).symm
 have hle:n / 2 ^ i < 4294967296:=Nat.lt_of_le_of_lt (Nat.div_le_self _ _) hn
 have e:(BitVec.ofInt IntKind.u32.bits ((n / 2 ^ i:Nat):Int) &&& BitVec.ofInt IntKind.u32.bits 1).toNat=n / 2 ^ i % 2:=by
  have:=ZR hle (show 1 < 4294967296 by decide)
  rw[Nat.and_one_is_mod] at this
  exact this
 unfold Pz
 rw[hm,hf,e,wrap_u32 (by omega),Nat.testBit_eq_decide_div_mod_eq]
 rcases Nat.mod_two_eq_zero_or_one (n / 2 ^ i) with h | h <;> rw[h] <;> rfl
theorem YU {n i:Nat} (hn:n < 4294967296) (hi:i < 32):nX (n:Int) i=((n ||| 2 ^ i:Nat):Int):=by
 have hm:min i IntKind.u32.bits=i:=by show min i 32=i;omega
 have hp:2 ^ i < 4294967296:=by
  have:(2:Nat) ^ i < 2 ^ 32:=Nat.pow_lt_pow_right (by decide) hi
  simpa using this
 have h2:IntKind.u32.wrap (1 * 2 ^ i)=((2 ^ i:Nat):Int):=by
  rw[Int.one_mul,show ((2:Int) ^ i)=((2 ^ i:Nat):Int) by push_cast;rfl,wrap_u32 hp]
 unfold nX
 rw[hm,h2,xV hn hp,wrap_u32]
 exact Nat.or_lt_two_pow (n:=32) hn hp
def Bt (x:Int) (bits d:Nat):Nat→List Yb→Nat×Bool→Nat×Bool
 |_,[],acc=>acc
 |i,s::r,acc=>Bt x bits d (i+1) r (if bits.testBit i&&Ys s d x then (acc.1 ||| 2 ^ i,acc.2||(s.parts.length==d+1)) else acc)
theorem UG {x:Int} {bits d:Nat}:∀ (ss:List Yb) (i:Nat) (acc:Nat×Bool),i+ss.length≤32→acc.1 < 4294967296→(Bt x bits d i ss acc).1 < 4294967296
 | [],i,acc,_,h=>h
 |s::r,i,acc,hl,h=>by
  rw[Bt]
  refine UG r (i+1) _ (by simp only[List.length_cons] at hl;omega) ?_
  split
  ·refine Nat.or_lt_two_pow (n:=32) h ?_
   exact Nat.pow_lt_pow_right (by decide) (by simp only[List.length_cons] at hl;omega)
  ·exact h
theorem kM {x:Int} {bits d:Nat} (hb:bits < 4294967296):∀ (ss:List Yb) (i:Nat) (acc:Nat×Bool),i+ss.length≤32→acc.1 < 4294967296→
 rh x (bits:Int) d i ss ((acc.1:Int),acc.2)=(((Bt x bits d i ss acc).1:Int),(Bt x bits d i ss acc).2)
 | [],i,acc,_,h=>rfl
 |s::r,i,acc,hl,h=>by
  have hi:i < 32:=by simp only[List.length_cons] at hl;omega
  rw[rh,Bt,pJ hb hi,YU h hi]
  have h2:(acc.1 ||| 2 ^ i) < 4294967296:=Nat.or_lt_two_pow (n:=32) h (Nat.pow_lt_pow_right (by decide) hi)
  have ih:=kM (x:=x) (d:=d) hb r (i+1) (if bits.testBit i&&Ys s d x then (acc.1 ||| 2 ^ i,acc.2||(s.parts.length==d+1)) else acc)
   (by simp only[List.length_cons] at hl;omega) (by split;exact h2;exact h)
  rw[← ih]
  cases bits.testBit i&&Ys s d x <;> rfl
theorem Xz {x:Int} {bits d:Nat}:∀ (ss:List Yb) (i:Nat) (acc:Nat×Bool) (j:Nat),
 (Bt x bits d i ss acc).1.testBit j=(acc.1.testBit j||(decide (i≤j)&&(match ss[j - i]? with | some s=>bits.testBit j&&Ys s d x | none=>false)))
 | [],i,acc,j=>by simp[Bt]
 |s::r,i,acc,j=>by
  rw[Bt,Xz r (i+1)]
  by_cases hij:i=j
  ·subst hij
   simp only[Nat.sub_self,List.getElem?_cons_zero,Nat.le_refl,decide_true,Bool.true_and]
   have:decide (i+1≤i)=false:=by simp
   rw[this,Bool.false_and,Bool.or_false]
   cases h:(bits.testBit i&&Ys s d x) with
   |true=>simp[Nat.testBit_or,Nat.testBit_two_pow_self]
   |false=>simp
  ·have e1:(if (bits.testBit i&&Ys s d x)=true then (acc.1 ||| 2 ^ i,acc.2||s.parts.length==d+1) else acc).1.testBit j=acc.1.testBit j:=by
    split
    ·simp only[Nat.testBit_or,Nat.testBit_two_pow_of_ne hij,Bool.or_false]
    ·rfl
   rw[e1]
   by_cases hlt:i+1≤j
   ·have e2:j - i=(j - (i+1))+1:=by omega
    have e3:decide (i≤j)=decide (i+1≤j):=by simp;omega
    rw[e2,e3,List.getElem?_cons_succ]
   ·have e3:decide (i≤j)=false:=by simp;omega
    have e4:decide (i+1≤j)=false:=by simp;omega
    rw[e3,e4];rfl
theorem DA {x:Int} {bits d:Nat}:∀ (ss:List Yb) (i:Nat) (acc:Nat×Bool),
 (Bt x bits d i ss acc).2=(acc.2||(ss.zipIdx i).any fun p=>bits.testBit p.2&&Ys p.1 d x&&(p.1.parts.length==d+1))
 | [],i,acc=>by simp[Bt]
 |s::r,i,acc=>by
  rw[Bt,DA r (i+1),List.zipIdx_cons,List.any_cons]
  cases h:(bits.testBit i&&Ys s d x) with
  |true=>simp[Bool.or_assoc]
  |false=>simp
end Go.AM.B1
namespace Go.AM.B1
open Go.AM
def mK (ss:List Yb) (k:Nat) (a:Al):Prop:=
 a.1≤k∧∃ b:Nat,a.2=(b:Int)∧b < 4294967296∧∀ i s,ss[i]? =some s→b.testBit i=true→a.1 < s.parts.length
def Sm (ss:List Yb) (sets:List Al):Prop:=sets.length≤64∧∀ k a,sets[k]? =some a→mK ss k a
theorem mK.Aa {ss:List Yb} {k:Nat} {a:Al} (h:mK ss k a) (hl:ss.length≤32):∀ i s,ss[i]? =some s→Pz a.2 i=true→a.1 < s.parts.length:=by
 obtain⟨_,b,e,hb,h⟩:=h
 intro i s hs ht
 have hi:i < 32:=by have:=(List.getElem?_eq_some_iff.1 hs).1;omega
 rw[e,pJ hb hi] at ht
 exact h i s hs ht
theorem xW {ss:List Yb} {k:Nat} {a:Al} {x:Int} (h:mK ss k a) (hl:ss.length≤32) (hf:(rh x a.2 a.1 0 ss (0,false)).2=false):
 mK ss (k+1) (a.1+1,(rh x a.2 a.1 0 ss (0,false)).1):=by
 obtain⟨hk,b,e,hb,h⟩:=h
 have hN:rh x (b:Int) a.1 0 ss (0,false)=(((Bt x b a.1 0 ss (0,false)).1:Int),(Bt x b a.1 0 ss (0,false)).2):=kM (x:=x) (d:=a.1) hb ss 0 (0,false) (by omega) (by decide)
 rw[e,hN] at hf
 rw[e,hN]
 have hlt:=UG (x:=x) (bits:=b) (d:=a.1) ss 0 (0,false) (by omega) (by decide)
 refine⟨Nat.succ_le_succ hk,_,rfl,hlt,?_⟩
 intro i s hs ht
 rw[Xz] at ht
 simp only[Nat.zero_testBit,Nat.zero_le,decide_true,Bool.true_and,Bool.false_or,Nat.sub_zero,hs] at ht
 have hd:=h i s hs (by revert ht;cases b.testBit i <;> simp)
 have hf':(Bt x b a.1 0 ss (0,false)).2=false:=hf
 rw[DA,Bool.false_or,List.any_eq_false] at hf'
 have:=hf' (s,i) (by rw[List.mk_mem_zipIdx_iff_getElem?];exact hs)
 show a.1+1 < s.parts.length
 simp only[ht,Bool.true_and] at this
 have h2:¬s.parts.length=a.1+1:=by simpa using this
 omega
theorem eD {ss:List Yb} {a:Al} {x:Int} {sets:List Al} {r:List Al×Int} {k:Nat} (hs:Sm ss sets) (ha:sets[k]? =some a) (hl:ss.length≤32) (h:Kg ss a x sets=some r):
 Sm ss r.1∧∃ t,r.1=sets++t:=by
 have hk:=hs.2 k a ha
 unfold Kg at h
 split at h
 ·injection h with h;subst h;exact⟨hs,[],by simp⟩
 ·split at h
  ·injection h with h;subst h;exact⟨hs,[],by simp⟩
  ·next hf=>
   split at h
   ·injection h with h;subst h;exact⟨hs,[],by simp⟩
   ·split at h
    ·next hlt=>
     injection h with h;subst h
     refine⟨⟨by simp;omega,?_⟩,_,rfl⟩
     intro j b hb
     rcases Nat.lt_or_ge j sets.length with h1 | h1
     ·rw[List.getElem?_append_left h1] at hb;exact hs.2 j b hb
     ·rw[List.getElem?_append_right h1] at hb
      cases hj:j - sets.length with
      |succ n=>rw[hj] at hb;simp at hb
      |zero=>
       rw[hj] at hb
       simp only[List.getElem?_cons_zero,Option.some.injEq] at hb
       subst hb
       have hkl:=(List.getElem?_eq_some_iff.1 ha).1
       obtain⟨g1,g2⟩:=xW hk hl (by simpa using hf)
       exact⟨Nat.le_trans g1 (by omega),g2⟩
    ·cases h
theorem Tu {ss:List Yb} {a:Al} {k:Nat} (hl:ss.length≤32):∀ (xs:List Nat) (r r':List Al×List Int),Sm ss r.1→r.1[k]? =some a→Qk ss a xs r=some r'→
 Sm ss r'.1∧(∃ t,r'.1=r.1++t)∧r'.2.length=r.2.length
 | [],r,r',h,_,e=>by injection e with e;subst e;exact⟨h,⟨[],by simp⟩,rfl⟩
 |x::xs,r,r',h,ha,e=>by
  cases hst:Kg ss a x r.1 with
  |none=>rw[ct hst] at e;cases e
  |some p=>
   rw[vt hst] at e
   obtain⟨g1,t,g2⟩:=eD h ha hl hst
   obtain⟨k1,⟨t',k2⟩,k3⟩:=Tu hl xs (p.1,r.2.set x p.2) r' g1 (by rw[g2,List.getElem?_append_left (List.getElem?_eq_some_iff.1 ha).1];exact ha) e
   exact⟨k1,⟨t++t',by rw[k2,g2,List.append_assoc]⟩,by rw[k3];simp⟩
def mb:List Int:=List.replicate 256 0
theorem xt:mb.length=256:=List.length_replicate
def Ig (ss:List Yb):Nat→List Al×List (List Int)→Option (List Al×List (List Int))
 |0,r=>some r
 |k+1,r=>match r.1[r.2.length]? with
  |none=>some r
  |some a=>match Qk ss a (List.range 256) (r.1,mb) with
   |none=>none
   |some p=>Ig ss k (p.1,r.2++[p.2])
theorem Ws {ss:List Yb} {k:Nat} {r:List Al×List (List Int)} (h:r.1[r.2.length]? =none):Ig ss k r=some r:=by
 cases k with
 |zero=>rfl
 |succ k=>rw[Ig,h]
theorem Vu {ss:List Yb} {k:Nat} {r:List Al×List (List Int)} {a:Al} (h:r.1[r.2.length]? =some a) (h2:Qk ss a (List.range 256) (r.1,mb)=none):Ig ss (k+1) r=none:=by
 rw[Ig,h];simp only[h2]
theorem Nt {ss:List Yb} {k:Nat} {r:List Al×List (List Int)} {a:Al} {p:List Al×List Int} (h:r.1[r.2.length]? =some a) (h2:Qk ss a (List.range 256) (r.1,mb)=some p):Ig ss (k+1) r=Ig ss k (p.1,r.2++[p.2]):=by
 rw[Ig,h];simp only[h2]
section
variable (R0 R1:ba) (S:PV) (nl:Bool) (sets:List Al) (rs:List (List Int)) (ss:List Yb) (i:Nat)
theorem LR (h0:pa 7 R0=some R0) (h1:pa 7 R1=some R1) (hi:i < sets.length) (hl:sets.length≤64)
 (hrowL:bu 2 (.pv (.bool false)) R0 (gb (fa (ta (Ca Ea 7) Ka) (ga 7 [0,3,4,30])) oa ⟨nm i 0,Gj R0 R1 S nl sets (Ug rs) rs.length [.box (Ja (List.replicate 256 0))]⟩)):
 bu 2 (.pv (.bool false)) R0 (Pb (Ca Ea 7) [0,3] Ab 6 ⟨XA i,Gj R0 R1 S nl sets (Ug rs) rs.length []⟩):=by
 have hlen:(sets.map Zh).length=sets.length:=by simp
 have e1:decide ((i:Int) < (sets.length:Int))=true:=Ga (by omega)
 have q5:=sw 7 6 rs
 obtain⟨t,g1,g2,g3⟩:=mr hrowL
 simp only[nm,Gj,Ug,Int.cast_ofNat_Int] at g1
 unfold Gj Ug
 have hz2:=tW
 generalize hz:List.replicate 256 (0:Int)=zs at *
 simp -implicitDefEqProofs only[SP,SA,SQ,sevalprocAttr,-List.reduceReplicate,Pb,fa,Ab,hlen,e1,qb,ga,za,Dm,Im,tm,Ps,Ba,yq,AV.cut,Xb,h0,h1,XA,hz2,q5]
 rw[g1]
 simp -implicitDefEqProofs only[SP,SA,SQ,sevalprocAttr,-List.reduceReplicate,GC,g2,g3]
theorem MJ (hi:i=sets.length):
 Pb (Ca Ea 7) [0,3] Ab 6 ⟨XA i,Gj R0 R1 S nl sets (Ug rs) rs.length []⟩=
  some (.exit 0,⟨(((((((XA i).set 21 (.pv (i64 i))).set 22 (.ptr 3 0)).set 23 (.ptr 3 0)).set 24 (.ptr 3 2)).set 25 (.uq 4 nl 2 (sets.map Zh))).set 26 (.pv (i64 sets.length))).set 27 (.pv (.bool false)),Gj R0 R1 S nl sets (Ug rs) rs.length []⟩):=by
 have hlen:(sets.map Zh).length=sets.length:=by simp
 have e1:decide ((i:Int) < (sets.length:Int))=false:=Ia (by omega)
 simp -implicitDefEqProofs only[SP,SA,SQ,sevalprocAttr,-List.reduceReplicate,Pb,fa,Ab,hlen,e1,XA,Gj]
theorem jP (n:Nat):pa n (Ug rs)=some (Ug rs):=by
 have:(rs.flatMap Ja).all (AV.Ze n deep)=true:=sw n deep rs
 unfold Ug
 rw[Ps,if_pos this]
theorem YP (h0:pa 7 R0=some R0) (h1:pa 7 R1=some R1) (g0:pa 6 R0=some R0) (g1:pa 6 R1=some R1)
 (hS:Th 2 S (ss.map Xd)) (hw:ss.length≤32) (hsz:∀ s∈ss,∀ l∈s.parts,l.length * 16≤140737488355328) (Aa:Sm ss sets) (h1s:sets.length≤1):
 (∀ r,Ig ss 64 (sets,[])=some r→∃ E nl',gb (fa (ta (Ca Ea 7) Ab) (ga 6 [0,3])) oa ⟨XA 0,Gj R0 R1 S nl sets (Ug []) 0 []⟩=
  some (.exit 0,⟨E,Gj R0 R1 S nl' r.1 (Ug r.2) r.2.length []⟩)∧Sm ss r.1∧r.2.length=r.1.length∧∀ r'∈r.2,r'.length=256)∧
 (Ig ss 64 (sets,[])=none→bu 2 (.pv (.bool false)) R0 (gb (fa (ta (Ca Ea 7) Ab) (ga 6 [0,3])) oa ⟨XA 0,Gj R0 R1 S nl sets (Ug []) 0 []⟩)):=by
 have key:=Pj (g:=Pb (Ca Ea 7) [0,3] Ab 6)
  (fun i t=>∃ nl' sets' rs',t=⟨XA i,Gj R0 R1 S nl' sets' (Ug rs') rs'.length []⟩∧Ig ss 64 (sets,[])=Ig ss (64 - i) (sets',rs')∧Sm ss sets'∧rs'.length=i∧i≤sets'.length∧∀ r∈rs',r.length=256)
  (fun ex t=>(∃ r,ex= .exit 0∧Ig ss 64 (sets,[])=some r∧∃ E nl',t=⟨E,Gj R0 R1 S nl' r.1 (Ug r.2) r.2.length []⟩∧Sm ss r.1∧r.2.length=r.1.length∧∀ r'∈r.2,r'.length=256)∨
   (ex= .ret∧Ig ss 64 (sets,[])=none∧t.env.get 2= .pv (.bool false)∧t.H[0]? =some R0))
  oa 64 0 ⟨XA (0:Nat),Gj R0 R1 S nl sets (Ug []) 0 []⟩ (by unfold oa;omega) (by omega) ⟨nl,sets,[],rfl,rfl,Aa,rfl,by omega,by simp⟩ ?_ ?_
 ·obtain⟨ex,t,h,_,hq⟩:=key
  have h':gb (fa (ta (Ca Ea 7) Ab) (ga 6 [0,3])) oa ⟨XA 0,Gj R0 R1 S nl sets (Ug []) 0 []⟩=some (ex,t):=h
  rw[h']
  rcases hq with⟨r,rfl,hr',E,nl',rfl,q1,q2,q3⟩ | ⟨rfl,hr',hg,hg2⟩
  ·refine⟨fun r2 e=> ?_,fun e=> ?_⟩
   ·rw[hr'] at e;injection e with e;subst e;exact⟨E,nl',rfl,q1,q2,q3⟩
   ·rw[hr'] at e;cases e
  ·refine⟨fun r2 e=> ?_,fun _=> .mk _ hg hg2⟩
   rw[hr'] at e;cases e
 ·rintro i hi t ⟨nl',sets',rs',rfl,hws,hok',hrl,hil,hrr⟩
  by_cases hlt:i < sets'.length
  ·obtain⟨a,ha⟩:∃ a,sets'[i]? =some a:=⟨sets'[i],by simp[hlt]⟩
   have hsa:=hok'.2 i a ha
   have hget:sets'[rs'.length]? =some a:=by rw[hrl];exact ha
   have hrow:=qS R0 R1 S (Ug rs') rs'.length ss h0 h1 (jP rs' 7) hS (by unfold maxLen;omega) hsz (nl:=nl') xt ha (by have:=hsa.1;omega) hok'.1 (hsa.Aa hw)
   have e64:64 - i=(64 - (i+1))+1:=by omega
   cases hr:Qk ss a (List.range 256) (sets',mb) with
   |none=>
    have hst:=LR R0 R1 S nl' sets' rs' i h0 h1 hlt hok'.1 (hrow.2 hr)
    obtain⟨t,k1,k2,k3⟩:=mr hst
    rw[e64,Vu (r:=(sets',rs')) hget hr] at hws
    exact .inr ⟨.ret,t,k1,rfl,.inr ⟨rfl,hws,k2,k3⟩⟩
   |some p=>
    obtain⟨nl2,k1,k2,k3,k4⟩:=hrow.1 p hr
    have hro:=Tu hw _ _ _ hok' ha hr
    rw[e64,Nt (r:=(sets',rs')) hget hr] at hws
    have hsr:=ZP R0 R1 S nl' sets' rs' i h0 h1 g0 g1 hlt hok'.1 (by have:=hok'.1;omega) hrr nl2 p.1 p.2 k3 k1
    refine .inl ⟨_,hsr,nl2,p.1,rs'++[p.2],by simp,hws,hro.1,by simp[hrl],?_,?_⟩
    ·obtain⟨t,ht⟩:=k4
     rw[ht];simp;omega
    ·intro r hr
     rcases List.mem_append.1 hr with h | h
     ·exact hrr r h
     ·simp at h;subst h;exact k3
  ·have hie:i=sets'.length:=by omega
   rw[Ws (r:=(sets',rs')) (by show sets'[rs'.length]? =none;rw[hrl,hie];simp)] at hws
   exact .inr ⟨.exit 0,_,MJ R0 R1 S nl' sets' rs' i hie,rfl,.inl ⟨(sets',rs'),rfl,hws,_,nl',rfl,hok',by show rs'.length=sets'.length;omega,hrr⟩⟩
 ·rintro t ⟨nl',sets',rs',rfl,hws,hok',hrl,hil,hrr⟩
  have hie:64=sets'.length:=by have:=hok'.1;omega
  rw[Ws (r:=(sets',rs')) (by show sets'[rs'.length]? =none;rw[hrl,hie];simp)] at hws
  exact⟨.exit 0,_,MJ R0 R1 S nl' sets' rs' 64 hie,rfl,.inl ⟨(sets',rs'),rfl,hws,_,nl',rfl,hok',by show rs'.length=sets'.length;omega,hrr⟩⟩
end
end Go.AM.B1
namespace Go.AM.B1
open Go.AM
abbrev Vh (R0 R1:ba) (S:PV) (nl nr:Bool) (fr:Nat) (sets:List Al) (C:List Int) (n:Nat) (T:List ba):List ba:=
 R0::R1:: .map (UB sets 0):: .box [.pv S,.mp 2,.uq 4 nl 2 (sets.map Zh),.own 5 n]:: .tok 2 sets.length nl:: .seq 256 true (Ja C) fr nr::T
abbrev vi (row:List Int):PV:= .agg (row.map i64)
abbrev nz (n:Nat) (row:List Int) (i x:Int):Tr:=
 (((((Tr.lf.set 34 (.pv (i64 x))).set 33 (.pv (vi row))).set 5 (.pv (i64 i))).set 4 (.mp 7)).set 3 (.own 6 n)).set 0 (.ptr 3 0)
section
variable (call:ab) (R0 R1:ba) (S:PV) (nl nr nk:Bool) (fr fk:Nat) (sets:List Al) (C:List Int) (n:Nat) (zc:List Int) (M:ba) (row:List Int) (i x:Nat) (to:Int)
theorem aM (hx:x < 256) (hto:row[x]? =some to) (h:to < 0):fa (ta call vc) (fun s=>some (tidy [0,3,4,5,33,34] s)) ⟨nz n row i x,Vh R0 R1 S nl nr fr sets C n [.seq 1 false (Ja zc) fk nk,M]⟩=
 some (.norm,⟨nz n row i (x+1:Nat),Vh R0 R1 S nl nr fr sets C n [.seq 1 false (Ja zc) fk nk,M]⟩):=by
 have e1:decide ((x:Int) < 256)=true:=Ga (by omega)
 have e2:decide (to≥0)=false:=Ia (by omega)
 have hq:Fa (x:Int) 256:=by unfold Fa;omega
 have t1:((x:Int)).toNat=x:=by simp
 have t2:=Ua (i:=x) (n:=256) hx (by unfold maxLen;omega)
 have ht:(row.map i64)[x]? =some (i64 to):=by rw[List.getElem?_map,hto];rfl
 simp -implicitDefEqProofs only[SP,SA,SQ,sevalprocAttr,-List.reduceReplicate,fa,vc,e1,e2,eq_true hq,t1,t2,ht,jm,ua,tidy,Dc,nz,Vh]
theorem cP (hC:C.length=n * 256) (hk:zc.length=n) (hfr:fr≤n * 256) (hfk:fk≤n) (hi:i < n) (hx:x < 256) (hto:row[x]? =some to) (h:0≤to) {v:Int} (hv:zc[to.toNat]? =some v):fa (ta call vc) (fun s=>some (tidy [0,3,4,5,33,34] s)) ⟨nz n row i x,Vh R0 R1 S nl nr fr sets C n [.seq 1 false (Ja zc) fk nk,M]⟩=
 some (.norm,⟨nz n row i (x+1:Nat),Vh R0 R1 S nl nr (n * 256) sets (C.set (i * 256+x) v) n [.seq 1 false (Ja zc) fk nk,M]⟩):=by
 have e1:decide ((x:Int) < 256)=true:=Ga (by omega)
 have e2:decide (to≥0)=true:=Ga (by omega)
 have hq:Fa (x:Int) 256:=by unfold Fa;omega
 have t1:((x:Int)).toNat=x:=by simp
 have t3:((i:Int)).toNat=i:=by simp
 have t2:=Ua (i:=x) (n:=256) hx (by unfold maxLen;omega)
 have ht:(row.map i64)[x]? =some (i64 to):=by rw[List.getElem?_map,hto];rfl
 have hv':(Ja zc)[to.toNat]? =some (.pv (i64 v)):=by rw[Ja,List.getElem?_map,hv];rfl
 have hvl:=(List.getElem?_eq_some_iff.1 hv).1
 have hq2:Fa to n:=by unfold Fa;omega
 have hq3:Fa (i:Int) n:=by unfold Fa;omega
 have w1:mi 1 n fk (Ja zc).length:=by rw[pb];unfold mi;omega
 have w2:mi 256 n fr (Ja C).length:=by rw[pb];unfold mi;omega
 have w3:((Ja zc).length=n)=True:=by rw[pb];exact eq_true hk
 have w5:(i * 256+x+1≤n * 256)=True:=eq_true (by omega)
 have w4:((Ja C).length=n * 256)=True:=by rw[pb];exact eq_true hC
 simp -implicitDefEqProofs only[SP,SA,SQ,sevalprocAttr,-List.reduceReplicate,fa,vc,e1,e2,eq_true hq,eq_true hq2,eq_true hq3,eq_true w1,eq_true w2,w3,w4,w5,t1,t2,t3,ht,hv',jm,ua,qj,tidy,Dc,nz,Vh]
def Hd (zc row:List Int) (i:Nat):List Nat→List Int→List Int
 | [],C=>C
 |x::xs,C=>Hd zc row i xs (match row[x]? with
  |some to=>if 0≤to then C.set (i * 256+x) (zc.getD to.toNat 0) else C
  |none=>C)
theorem cm (zc row:List Int) (i:Nat):∀ (xs:List Nat) (C:List Int),(Hd zc row i xs C).length=C.length
 | [],C=>rfl
 |x::xs,C=>by
  rw[Hd,cm zc row i xs]
  split
  ·split <;> simp
  ·rfl
theorem QI (hC:C.length=n * 256) (hk:zc.length=n) (hfr:fr=0∨fr=n * 256) (hfk:fk≤n) (hi:i < n) (hrow:row.length=256) (hto:∀ to∈row,to < n):
 ∃ fr',(fr'=0∨fr'=n * 256)∧gb (fa (ta call vc) (fun s=>some (tidy [0,3,4,5,33,34] s))) oa ⟨nz n row i 0,Vh R0 R1 S nl nr fr sets C n [.seq 1 false (Ja zc) fk nk,M]⟩=
  some (.exit 2,⟨(nz n row i 256).set 35 (.pv (.bool false)),Vh R0 R1 S nl nr fr' sets (Hd zc row i (List.range 256) C) n [.seq 1 false (Ja zc) fk nk,M]⟩):=by
 generalize hxs:List.range 256=xs
 have key:=Pj (g:=fa (ta call vc) (fun s=>some (tidy [0,3,4,5,33,34] s)))
  (fun x t=>∃ fr' C',(fr'=0∨fr'=n * 256)∧C'.length=n * 256∧t=⟨nz n row i x,Vh R0 R1 S nl nr fr' sets C' n [.seq 1 false (Ja zc) fk nk,M]⟩∧Hd zc row i xs C=Hd zc row i (xs.drop x) C')
  (fun ex t=>∃ fr',(fr'=0∨fr'=n * 256)∧ex= .exit 2∧t=⟨(nz n row i 256).set 35 (.pv (.bool false)),Vh R0 R1 S nl nr fr' sets (Hd zc row i xs C) n [.seq 1 false (Ja zc) fk nk,M]⟩)
  oa 256 0 ⟨nz n row i (0:Nat),Vh R0 R1 S nl nr fr sets C n [.seq 1 false (Ja zc) fk nk,M]⟩ (by unfold oa;omega) (by omega) ⟨fr,C,hfr,hC,rfl,rfl⟩ ?_ ?_
 ·obtain⟨ex,t,h,_,fr',q1,rfl,rfl⟩:=key
  exact⟨fr',q1,h⟩
 ·rintro x hx t ⟨fr',C',hf',hC',rfl,hl⟩
  have hd:=dq hx
  rw[hxs] at hd
  rw[hd] at hl
  obtain⟨to,ht⟩:∃ to,row[x]? =some to:=⟨row[x],by simp[hrow,hx]⟩
  have hlt:=hto to (List.mem_of_getElem? ht)
  by_cases h0:0≤to
  ·obtain⟨v,hv⟩:∃ v,zc[to.toNat]? =some v:=⟨zc[to.toNat]'(by omega),by rw[List.getElem?_eq_getElem]⟩
   refine .inl ⟨_,cP call R0 R1 S nl nr nk fr' fk sets C' n zc M row i x to hC' hk (by omega) hfk hi hx ht h0 hv,n * 256,_,.inr rfl,by simpa using hC',rfl,?_⟩
   rw[hl,Hd,ht]
   have:zc.getD to.toNat 0=v:=by simp[hv]
   simp only[if_pos h0,this]
  ·refine .inl ⟨_,aM call R0 R1 S nl nr nk fr' fk sets C' n zc M row i x to hx ht (by omega),fr',C',hf',hC',rfl,?_⟩
   rw[hl,Hd,ht]
   simp only[if_neg h0]
 ·rintro t ⟨fr',C',hf',hC',rfl,hl⟩
  rw[List.drop_eq_nil_of_le (by rw[← hxs,List.length_range];exact Nat.le_refl _)] at hl
  refine⟨.exit 2,_,?_,rfl,fr',hf',rfl,rfl⟩
  rw[hl]
  have e1:decide (((256:Nat):Int) < 256)=false:=by decide
  simp -implicitDefEqProofs only[SP,SA,SQ,sevalprocAttr,-List.reduceReplicate,fa,vc,e1,nz,Vh,Hd]
end
theorem ZA:∀ (a b:List Int),a.length=b.length→dh (List.replicate a.length 1) (a.map i64) (b.map i64)=some (decide (a=b))
 | [],[],_=>rfl
 |x::a,y::b,h=>by
  have ih:=ZA a b (by simpa using h)
  simp only[List.length_cons,List.replicate_succ,List.map_cons,dh,Jn,if_true,Option.bind_some,ih,Option.map_some,List.cons.injEq,Bool.decide_and]
  congr 2
 | [],_::_,h=>by cases h
 |_::_,[],h=>by cases h
def Is (M:List (List Int×Int)):List (PV×PV):=M.map fun p=>(vi p.1,i64 p.2)
theorem yQ (M:List (List Int×Int)) (p:List Int×Int):Is (M++[p])=Is M++[(vi p.1,i64 p.2)]:=by simp[Is]
def Dk (a:List Int):List (List Int×Int)→Option Int
 | []=>none
 |p::r=>if a=p.1 then some p.2 else Dk a r
theorem iK {a:List Int} (ha:a.length=256):∀ (M:List (List Int×Int)) (j:Nat),(∀ p∈M,p.1.length=256)→
 (∀ v,Dk a M=some v→∃ k,dm (.row (List.replicate 256 1)) (vi a) (Is M) j=some (some (k,i64 v)))∧(Dk a M=none→dm (.row (List.replicate 256 1)) (vi a) (Is M) j=some none)
 | [],j,_=>⟨fun v h=>(by cases h),fun _=>rfl⟩
 |p::r,j,hp=>by
  have he:=ZA a p.1 (by rw[ha,hp p (by simp)])
  rw[ha] at he
  have ih:=iK ha r (j+1) (fun q hq=>hp q (by simp[hq]))
  have hk:Zi (.row (List.replicate 256 1)) (vi a) (vi p.1)=some (decide (a=p.1)):=he
  rw[show Is (p::r)=(vi p.1,i64 p.2)::Is r from rfl,dm,hk,Option.bind_some,Dk]
  by_cases h:a=p.1
  ·rw[if_pos h,decide_eq_true h]
   exact⟨fun v e=>(by injection e with e;subst e;exact⟨j,rfl⟩),fun e=>(by cases e)⟩
  ·rw[if_neg h,decide_eq_false h]
   exact ih
theorem vM {a:List Int} (ha:a.length=256):(Zi (.row (List.replicate 256 1)) (vi a) (vi a)).isSome=true:=by
 have he:=ZA a a rfl
 rw[ha] at he
 show (dh _ _ _).isSome=true
 rw[he];rfl
def Wa (C:List Int) (i:Nat):List Int:=(C.drop (i * 256)).take 256
theorem Jh {C:List Int} {n i:Nat} (hC:C.length=n * 256) (hi:i < n):(Wa C i).length=256:=by
 unfold Wa;rw[List.length_take,List.length_drop,hC];omega
theorem pD (C:List Int) (i:Nat):He (List.take 256 (List.drop (i * 256) (Ja C)))=some ((Wa C i).map i64):=by
 have:List.take 256 (List.drop (i * 256) (Ja C))=Ja (Wa C i):=by unfold Wa Ja;rw[List.map_take,List.map_drop]
 rw[this,Hs]
structure xK where
 C:List Int
 zc:List Int
 M:List (List Int×Int)
def Rk (i:Nat) (s:xK):xK:=
 let C:=Hd s.zc (Wa s.C i) i (List.range 256) s.C
 match Dk (Wa C i) s.M with
 |some v=>⟨C,s.zc.set i v,s.M⟩
 |none=>⟨C,s.zc.set i i,s.M++[(Wa C i,(i:Int))]⟩
def Ej:Nat→xK→xK
 |0,s=>s
 |i+1,s=>Ej i (Rk i s)
theorem Br {i:Nat} {s:xK} {v:Int} (h:Dk (Wa (Hd s.zc (Wa s.C i) i (List.range 256) s.C) i) s.M=some v):Rk i s=⟨Hd s.zc (Wa s.C i) i (List.range 256) s.C,s.zc.set i v,s.M⟩:=by
 simp only[Rk,h]
theorem Zr {i:Nat} {s:xK} (h:Dk (Wa (Hd s.zc (Wa s.C i) i (List.range 256) s.C) i) s.M=none):
 Rk i s=⟨Hd s.zc (Wa s.C i) i (List.range 256) s.C,s.zc.set i i,s.M++[(Wa (Hd s.zc (Wa s.C i) i (List.range 256) s.C) i,(i:Int))]⟩:=by
 simp only[Rk,h]
abbrev bA (n:Nat) (i:Int):Tr:=(((Tr.lf.set 5 (.pv (i64 i))).set 4 (.mp 7)).set 3 (.own 6 n)).set 0 (.ptr 3 0)
section
variable (call:ab) (R0 R1:ba) (S:PV) (nl nr nk:Bool) (fr fk:Nat) (sets:List Al) (n:Nat) (s:xK) (i:Nat)
theorem xJ (hC:s.C.length=n * 256) (hk:s.zc.length=n) (hfr:fr=0∨fr=n * 256) (hfk:fk≤n) (hi:i < n) (hn:n≤64) (hto:∀ to∈Wa s.C i,to < n) (hM:∀ p∈s.M,p.1.length=256):
 ∃ fr',(fr'=0∨fr'=n * 256)∧fa (ta call Ad) (fun s=>some (tidy [0,3,4,5] s)) ⟨bA n i,Vh R0 R1 S nl nr fr sets s.C n [.seq 1 false (Ja s.zc) fk nk,.map (Is s.M)]⟩=
  some (.norm,⟨bA n ((i:Int) - 1),Vh R0 R1 S nl nr fr' sets (Rk i s).C n [.seq 1 false (Ja (Rk i s).zc) n nk,.map (Is (Rk i s).M)]⟩):=by
 obtain⟨fr',hf',hin⟩:=QI call R0 R1 S nl nr nk fr fk sets s.C n s.zc (.map (Is s.M)) (Wa s.C i) i hC hk hfr hfk hi (Jh hC hi) hto
 refine⟨fr',hf',?_⟩
 have hC2:(Hd s.zc (Wa s.C i) i (List.range 256) s.C).length=n * 256:=by rw[cm,hC]
 have hrl:=Jh hC2 hi
 have hfd:=iK hrl s.M 0 hM
 have his:=vM hrl
 have p1:=pD s.C i
 have p2:=pD (Hd s.zc (Wa s.C i) i (List.range 256) s.C) i
 have e1:decide ((i:Int)≥0)=true:=Ga (by omega)
 have hq3:Fa (i:Int) n:=by unfold Fa;omega
 have t3:((i:Int)).toNat=i:=by simp
 have t2:IntKind.i64.wrap ((i:Int) - 1)=(i:Int) - 1:=Da (by omega)
 have w2:mi 256 n fr (Ja s.C).length:=by rw[pb];unfold mi;omega
 have w4:((Ja s.C).length=n * 256)=True:=by rw[pb];exact eq_true hC
 have w6:(i * 256+256≤(Ja s.C).length)=True:=by rw[pb];exact eq_true (by omega)
 have hl1:=@Br i s
 have hl2:=@Zr i s
 generalize Hd s.zc (Wa s.C i) i (List.range 256) s.C=C2 at *
 have w12:mi 256 n fr' (Ja C2).length:=by rw[pb];unfold mi;omega
 have w14:((Ja C2).length=n * 256)=True:=by rw[pb];exact eq_true hC2
 have w16:(i * 256+256≤(Ja C2).length)=True:=by rw[pb];exact eq_true (by omega)
 have w1:mi 1 n fk (Ja s.zc).length:=by rw[pb];unfold mi;omega
 have w3:((Ja s.zc).length=n)=True:=by rw[pb];exact eq_true hk
 have w5:(i+1≤n)=True:=eq_true (by omega)
 generalize hz:List.replicate 256 1=ks at *
 have hin':gb (fa (ta call vc) (fun s=>some (tidy [0,3,4,5,33,34] s))) oa ⟨nz n (Wa s.C i) i 0,Vh R0 R1 S nl nr fr sets s.C n [.seq 1 false (Ja s.zc) fk nk,.map (Is s.M)]⟩=_:=hin
 simp only[nz,Vh,tidy,Dc] at hin'
 cases hlk:Dk (Wa C2 i) s.M with
 |some v=>
  obtain⟨k,hk2⟩:=hfd.1 v hlk
  rw[hl1 hlk]
  simp -implicitDefEqProofs only[SP,SA,SQ,sevalprocAttr,-List.reduceReplicate,fa,Ad,e1,eq_true hq3,t2,t3,eq_true w2,w4,w6,p1,ua,Ip,tidy,Dc,bA,Vh,hz]
  rw[hin']
  simp -implicitDefEqProofs only[SP,SA,SQ,sevalprocAttr,-List.reduceReplicate,eq_true hq3,t2,t3,eq_true w12,w14,w16,eq_true w1,w3,w5,p2,ua,eq_true his,hk2,qj,tidy,Dc,bA,Vh]
 |none=>
  have hk2:=hfd.2 hlk
  rw[hl2 hlk]
  simp -implicitDefEqProofs only[SP,SA,SQ,sevalprocAttr,-List.reduceReplicate,fa,Ad,e1,eq_true hq3,t2,t3,eq_true w2,w4,w6,p1,ua,Ip,tidy,Dc,bA,Vh,hz]
  rw[hin']
  simp -implicitDefEqProofs only[SP,SA,SQ,sevalprocAttr,-List.reduceReplicate,eq_true hq3,t2,t3,eq_true w12,w14,w16,eq_true w1,w3,w5,p2,ua,eq_true his,hk2,qj,tidy,Dc,bA,Vh,yQ]
end
end Go.AM.B1
namespace Go.AM.B1
open Go.AM
structure NW (n:Nat) (s:xK):Prop where
 hC:s.C.length=n * 256
 hk:s.zc.length=n
 cC:∀ c∈s.C,c < n
 ck:∀ c∈s.zc,c < n
 cM:∀ p∈s.M,p.1.length=256∧p.2 < n
theorem uE {zc row:List Int} {i:Nat} {n:Int} (hn:0 < n) (hk:∀ c∈zc,c < n):∀ (xs:List Nat) (C:List Int),(∀ c∈C,c < n)→∀ c∈Hd zc row i xs C,c < n
 | [],C,h=>h
 |x::xs,C,h=>by
  rw[Hd]
  refine uE hn hk xs _ ?_
  split
  ·split
   ·intro c hc
    rcases List.mem_or_eq_of_mem_set hc with h1 | h1
    ·exact h c h1
    ·subst h1
     next to _ _=>
     rcases Nat.lt_or_ge to.toNat zc.length with h2 | h2
     ·rw[List.getD_eq_getElem?_getD,List.getElem?_eq_getElem h2];exact hk _ (List.getElem_mem h2)
     ·rw[List.getD_eq_getElem?_getD,List.getElem?_eq_none h2];exact hn
   ·exact h
  ·exact h
theorem As {a:List Int}:∀ {M:List (List Int×Int)} {v:Int},Dk a M=some v→∃ p∈M,p.1=a∧p.2=v
 |p::r,v,h=>by
  rw[Dk] at h
  split at h
  ·next h1=>injection h with h;exact⟨p,by simp,h1.symm,h⟩
  ·obtain⟨q,hq,e⟩:=As h
   exact⟨q,by simp[hq],e⟩
theorem JB {n i:Nat} {s:xK} (hi:i < n) (h:NW n s):NW n (Rk i s):=by
 have hC2:(Hd s.zc (Wa s.C i) i (List.range 256) s.C).length=n * 256:=by rw[cm,h.hC]
 have hlt:=uE (i:=i) (row:=Wa s.C i) (n:=(n:Int)) (by omega) h.ck (List.range 256) s.C h.cC
 have hl1:=@Br i s
 have hl2:=@Zr i s
 generalize Hd s.zc (Wa s.C i) i (List.range 256) s.C=C2 at *
 cases hl:Dk (Wa C2 i) s.M with
 |some v=>
  obtain⟨p,hp,_,hv⟩:=As hl
  have:=(h.cM p hp).2
  rw[hl1 hl]
  refine⟨hC2,by simp[h.hk],hlt,?_,h.cM⟩
  intro c hc
  rcases List.mem_or_eq_of_mem_set hc with h1 | h1
  ·exact h.ck c h1
  ·omega
 |none=>
  rw[hl2 hl]
  refine⟨hC2,by simp[h.hk],hlt,?_,?_⟩
  ·intro c hc
   rcases List.mem_or_eq_of_mem_set hc with h1 | h1
   ·exact h.ck c h1
   ·omega
  ·intro p hp
   rcases List.mem_append.1 hp with h1 | h1
   ·exact h.cM p h1
   ·simp at h1;subst h1;exact⟨Jh hC2 hi,by simp;omega⟩
theorem SC {n:Nat}:∀ (k:Nat) (s:xK),k≤n→NW n s→NW n (Ej k s)
 |0,s,_,h=>h
 |k+1,s,hk,h=>SC k _ (by omega) (JB (by omega) h)
def Ge (n:Nat) (C:List Int):xK:=Ej n ⟨C,List.replicate n 0,[]⟩
section
variable (call:ab) (R0 R1:ba) (S:PV) (nl nr nk:Bool) (sets:List Al) (C:List Int) (n:Nat)
theorem WL (s0:xK) (hn:n≤64) (h0:0 < n) (Aa:NW n s0):
 ∃ fr fk,(fr=0∨fr=n * 256)∧gb (fa (ta call Ad) (fun s=>some (tidy [0,3,4,5] s))) oa ⟨bA n ((n:Int) - 1),Vh R0 R1 S nl nr 0 sets s0.C n [.seq 1 false (Ja s0.zc) 0 nk,.map (Is s0.M)]⟩=
  some (.exit 0,⟨((bA n (-1)).set 23 (.pv (i64 (-1)))).set 24 (.pv (.bool false)),Vh R0 R1 S nl nr fr sets (Ej n s0).C n [.seq 1 false (Ja (Ej n s0).zc) fk nk,.map (Is (Ej n s0).M)]⟩)∧fk≤n:=by
 have key:=Pj (g:=fa (ta call Ad) (fun s=>some (tidy [0,3,4,5] s)))
  (fun j t=>∃ fr fk s,(fr=0∨fr=n * 256)∧fk≤n∧NW n s∧t=⟨bA n ((n:Int) - 1 - j),Vh R0 R1 S nl nr fr sets s.C n [.seq 1 false (Ja s.zc) fk nk,.map (Is s.M)]⟩∧Ej n s0=Ej (n - j) s)
  (fun ex t=>∃ fr fk,(fr=0∨fr=n * 256)∧fk≤n∧ex= .exit 0∧t=⟨((bA n (-1)).set 23 (.pv (i64 (-1)))).set 24 (.pv (.bool false)),Vh R0 R1 S nl nr fr sets (Ej n s0).C n [.seq 1 false (Ja (Ej n s0).zc) fk nk,.map (Is (Ej n s0).M)]⟩)
  oa n 0 ⟨bA n ((n:Int) - 1 - (0:Nat)),Vh R0 R1 S nl nr 0 sets s0.C n [.seq 1 false (Ja s0.zc) 0 nk,.map (Is s0.M)]⟩ (by unfold oa;omega) (by omega) ⟨0,0,s0,.inl rfl,by omega,Aa,rfl,rfl⟩ ?_ ?_
 ·obtain⟨ex,t,h,_,fr,fk,q1,q2,rfl,rfl⟩:=key
  rw[show ((n:Int) - 1 - (0:Nat))=(n:Int) - 1 by omega] at h
  exact⟨fr,fk,q1,h,q2⟩
 ·rintro j hj t ⟨fr,fk,s,hf,hfk,hs,rfl,hl⟩
  obtain⟨i,hi⟩:∃ i,n - j=i+1:=⟨n - j - 1,by omega⟩
  rw[hi,Ej] at hl
  obtain⟨fr',hf',hr⟩:=xJ call R0 R1 S nl nr nk fr fk sets n s i hs.hC hs.hk hf hfk (by omega) hn
   (fun to h=>hs.cC to (List.mem_of_mem_drop (List.mem_of_mem_take h))) (fun p hp=>(hs.cM p hp).1)
  rw[show ((n:Int) - 1 - (j:Int))=(i:Int) by omega]
  refine .inl ⟨_,hr,fr',n,Rk i s,hf',by omega,JB (by omega) hs,?_,?_⟩
  ·rw[show ((n:Int) - 1 - ((j+1:Nat):Int))=(i:Int) - 1 by omega]
  ·rw[hl,show n - (j+1)=i by omega]
 ·rintro t ⟨fr,fk,s,hf,hfk,hs,rfl,hl⟩
  rw[Nat.sub_self,Ej] at hl
  rw[show ((n:Int) - 1 - (n:Int))= -1 by omega]
  refine⟨.exit 0,_,?_,rfl,fr,fk,hf,hfk,rfl,rfl⟩
  rw[hl]
  have e1:decide ((-1:Int)≥0)=false:=by decide
  simp -implicitDefEqProofs only[SP,SA,SQ,sevalprocAttr,-List.reduceReplicate,fa,Ad,e1,bA,Vh]
theorem VF (n:Nat):Fk [PV.int .i64 0] n=Ja (List.replicate n 0):=by
 induction n with
 |zero=>rfl
 |succ n ih=>rw[Fk,ih];rfl
theorem rQ (hn:n≤64) (h0:0 < n) (hs:sets.length=n) (hC:C.length=n * 256) (cC:∀ c∈C,c < n):
 ∃ fr fk v,(fr=0∨fr=n * 256)∧cj call Ri [.ptr 3 0] (Vh R0 R1 S nl nr 0 sets C n [])=
  some (v,Vh R0 R1 S nl nr fr sets (Ge n C).C n [.seq 1 false (Ja (Ge n C).zc) fk false,.map (Is (Ge n C).M)]):=by
 obtain⟨fr,fk,hf,hl,hfk⟩:=WL call R0 R1 S nl nr false sets n ⟨C,List.replicate n 0,[]⟩ hn h0
  ⟨hC,by simp,cC,by intro c hc;rw[List.eq_of_mem_replicate hc];omega,by simp⟩
 refine⟨fr,fk,.own 6 n,hf,?_⟩
 have hlen:(sets.map Zh).length=n:=by rw[List.length_map,hs]
 have r0:Fk [PV.int .i64 0] n=Ja (List.replicate n 0):=VF n
 have t1:((n:Int)).toNat=n:=by simp
 have t2:IntKind.i64.wrap ((n:Int) - 1)=(n:Int) - 1:=Da (by omega)
 have e1:(0≤(n:Int))=True:=by simp
 have e2:xb n 8:=by unfold xb;omega
 have e3:((n:Int)≤(n:Int))=True:=by simp
 unfold Ge
 generalize Ej n ⟨C,List.replicate n 0,[]⟩=g at *
 generalize List.replicate n (0:Int)=zs at *
 simp only[tidy,Dc,bA,Vh,Is,List.map_nil] at hl
 simp -implicitDefEqProofs only[SP,SA,SQ,sevalprocAttr,-List.reduceReplicate,Ri,hlen,r0,t1,t2,e1,eq_true e2,e3,Ip,tidy,Dc,Vh]
 rw[hl]
 simp -implicitDefEqProofs only[SP,SA,SQ,sevalprocAttr,-List.reduceReplicate,Vh,Is]
end
end Go.AM.B1
namespace Go.AM.B1
open Go.AM
structure ve where
 lo:Int
 hi:Int
 to:Int
deriving DecidableEq
def Yt (e:ve):PV:= .agg [i64 e.lo,i64 e.hi,i64 e.to]
def bd (l:List ve):List Int:=l.flatMap fun e=>[e.lo,e.hi,e.to]
theorem Rj (l:List ve):(bd l).length=l.length * 3:=by
 induction l with
 |nil=>rfl
 |cons e l ih=>simp only[bd,List.flatMap_cons,List.length_append,List.length_cons,List.length_nil] at ih ⊢;omega
theorem Tl (l:List ve) (e:ve):bd (l++[e])=bd l++[e.lo,e.hi,e.to]:=by simp[bd]
def Lf (x to:Int) (l:List ve):List ve:=
 if to= -2 then l else match l.getLast? with
  |some e=>if e.to=to∧e.hi=x - 1 then l.dropLast++[⟨e.lo,x,e.to⟩] else l++[⟨x,x,to⟩]
  |none=>l++[⟨x,x,to⟩]
theorem NV (a b c:Int):Ja [a,b,c]=[.pv (i64 a),.pv (i64 b),.pv (i64 c)]:=rfl
theorem zD (a b:List Int):Ja (a++b)=Ja a++Ja b:=by simp[Ja]
abbrev Jt (row:List Int) (n:Nat) (x:Int):Tr:=((Tr.lf.set 8 (.pv (i64 x))).set 7 (.pv (vi row))).set 3 (.own 0 n)
theorem GD (l:List Int) (e:ve) (k:Nat) (hk:k < 3):(Ja (l++[e.lo,e.hi,e.to]))[l.length+k]? =some (.pv (i64 (if k=0 then e.lo else if k=1 then e.hi else e.to))):=by
 rw[Ja,List.getElem?_map,List.getElem?_append_right (by omega),Nat.add_sub_cancel_left]
 match k,hk with
 |0,_=>rfl
 |1,_=>rfl
 |2,_=>rfl
section
variable (call:ab) (row:List Int) (x:Nat) (to:Int) (fl:Nat)
 (hx:x < 256) (hto:row[x]? =some to)
include hx hto
theorem PO (l:List ve) (nl:Bool) (h:to= -2):fa (ta call Vc) (fun s=>some (tidy [3,7,8] s)) ⟨Jt row l.length x,[.seq 3 true (Ja (bd l)) fl nl]⟩=
 some (.norm,⟨Jt row l.length (x+1:Nat),[.seq 3 true (Ja (bd l)) fl nl]⟩):=by
 have e1:decide ((x:Int) < 256)=true:=Ga (by omega)
 have e2:(to== -2)=true:=by simp[h]
 have hq:Fa (x:Int) 256:=by unfold Fa;omega
 have t1:((x:Int)).toNat=x:=by simp
 have t2:=Ua (i:=x) (n:=256) hx (by unfold maxLen;omega)
 have ht:(row.map i64)[x]? =some (i64 to):=by rw[List.getElem?_map,hto];rfl
 simp -implicitDefEqProofs only[SP,SA,SQ,sevalprocAttr,fa,Vc,e1,e2,eq_true hq,t1,t2,ht,ua,tidy,Dc,Jt]
theorem LM (nl:Bool) (h:to≠ -2):fa (ta call Vc) (fun s=>some (tidy [3,7,8] s)) ⟨Jt row 0 x,[.seq 3 true [] 0 nl]⟩=
 some (.norm,⟨Jt row 1 (x+1:Nat),[.seq 3 true (Ja [(x:Int),x,to]) 0 false]⟩):=by
 have e1:decide ((x:Int) < 256)=true:=Ga (by omega)
 have e2:(to== -2)=false:=uh h
 have hq:Fa (x:Int) 256:=by unfold Fa;omega
 have t1:((x:Int)).toNat=x:=by simp
 have t2:=Ua (i:=x) (n:=256) hx (by unfold maxLen;omega)
 have ht:(row.map i64)[x]? =some (i64 to):=by rw[List.getElem?_map,hto];rfl
 have q1:xb 1 24:=by unfold xb;omega
 simp -implicitDefEqProofs only[SP,SA,SQ,sevalprocAttr,fa,Vc,e1,e2,eq_true hq,t1,t2,ht,eq_true q1,ua,tidy,Dc,Jt,yj,Ai,AV.uC,AV.Xo,Ja]
variable (l:List ve) (e:ve) (hl:l.length < 256) (hfl:fl≤(l.length+1) * 3)
include hl hfl
theorem vO (h:to≠ -2) (h1:e.to=to) (h2:e.hi=(x:Int) - 1):fa (ta call Vc) (fun s=>some (tidy [3,7,8] s)) ⟨Jt row (l.length+1) x,[.seq 3 true (Ja (bd l++[e.lo,e.hi,e.to])) fl false]⟩=
 some (.norm,⟨Jt row (l.length+1) (x+1:Nat),[.seq 3 true (Ja (bd l++[e.lo,(x:Int),e.to])) ((l.length+1) * 3) false]⟩):=by
 have e1:decide ((x:Int) < 256)=true:=Ga (by omega)
 have e2:(to== -2)=false:=uh h
 have hq:Fa (x:Int) 256:=by unfold Fa;omega
 have t1:((x:Int)).toNat=x:=by simp
 have t2:=Ua (i:=x) (n:=256) hx (by unfold maxLen;omega)
 have ht:(row.map i64)[x]? =some (i64 to):=by rw[List.getElem?_map,hto];rfl
 have e3:decide (((l.length+1:Nat):Int) > 0)=true:=Ga (by omega)
 have t3:IntKind.i64.wrap (((l.length+1:Nat):Int) - 1)=(l.length:Int):=by rw[Da (by omega)];omega
 have t4:((l.length:Int)).toNat=l.length:=by simp
 have t5:IntKind.i64.wrap ((x:Int) - 1)=(x:Int) - 1:=Da (by omega)
 have hq2:Fa (l.length:Int) (l.length+1):=by unfold Fa;omega
 have hlen:(Ja (bd l++[e.lo,e.hi,e.to])).length=(l.length+1) * 3:=by rw[pb,List.length_append,Rj];simp;omega
 have w1:mi 3 (l.length+1) fl (Ja (bd l++[e.lo,e.hi,e.to])).length:=by rw[hlen];unfold mi;omega
 have w2:((Ja (bd l++[e.lo,e.hi,e.to])).length=(l.length+1) * 3)=True:=eq_true hlen
 have g2:=GD (bd l) e 2 (by omega)
 have g1:=GD (bd l) e 1 (by omega)
 rw[Rj] at g1 g2
 simp only[h1,h2] at g1 g2
 have b1:(to==to)=true:=by simp
 have b2:((x:Int) - 1==(x:Int) - 1)=true:=by simp
 have w3:(l.length * 3+1+1≤(l.length+1) * 3)=True:=eq_true (by omega)
 have hset:(Ja (bd l++[e.lo,(x:Int) - 1,to])).set (l.length * 3+1) (.pv (i64 x))=Ja (bd l++[e.lo,(x:Int),to]):=by
  rw[qj,←Rj,List.set_append_right _ _ (by omega),Nat.add_sub_cancel_left];rfl
 rw[h1,h2] at *
 generalize bd l++[e.lo,(x:Int) - 1,to]=cs at *
 simp -implicitDefEqProofs only[SP,SA,SQ,sevalprocAttr,fa,Vc,e1,e2,e3,eq_true hq,eq_true hq2,t1,t2,t3,t4,t5,ht,g1,g2,eq_true w1,w2,w3,b1,b2,hset,ua,tidy,Dc,Jt]
theorem FP (h:to≠ -2) (h1:¬(e.to=to∧e.hi=(x:Int) - 1)):fa (ta call Vc) (fun s=>some (tidy [3,7,8] s)) ⟨Jt row (l.length+1) x,[.seq 3 true (Ja (bd l++[e.lo,e.hi,e.to])) fl false]⟩=
 some (.norm,⟨Jt row (l.length+1+1) (x+1:Nat),[.seq 3 true (Ja (bd l++[e.lo,e.hi,e.to])++Ja [(x:Int),x,to]) fl false]⟩):=by
 have e1:decide ((x:Int) < 256)=true:=Ga (by omega)
 have e2:(to== -2)=false:=uh h
 have hq:Fa (x:Int) 256:=by unfold Fa;omega
 have t1:((x:Int)).toNat=x:=by simp
 have t2:=Ua (i:=x) (n:=256) hx (by unfold maxLen;omega)
 have ht:(row.map i64)[x]? =some (i64 to):=by rw[List.getElem?_map,hto];rfl
 have e3:decide (((l.length+1:Nat):Int) > 0)=true:=Ga (by omega)
 have t3:IntKind.i64.wrap (((l.length+1:Nat):Int) - 1)=(l.length:Int):=by rw[Da (by omega)];omega
 have t4:((l.length:Int)).toNat=l.length:=by simp
 have t5:IntKind.i64.wrap ((x:Int) - 1)=(x:Int) - 1:=Da (by omega)
 have hq2:Fa (l.length:Int) (l.length+1):=by unfold Fa;omega
 have hlen:(Ja (bd l++[e.lo,e.hi,e.to])).length=(l.length+1) * 3:=by rw[pb,List.length_append,Rj];simp;omega
 have w1:mi 3 (l.length+1) fl (Ja (bd l++[e.lo,e.hi,e.to])).length:=by rw[hlen];unfold mi;omega
 have w2:((Ja (bd l++[e.lo,e.hi,e.to])).length=(l.length+1) * 3)=True:=eq_true hlen
 have w2':((l.length+1) * 3=(Ja (bd l++[e.lo,e.hi,e.to])).length)=True:=eq_true hlen.symm
 have g2:(Ja (bd l++[e.lo,e.hi,e.to]))[(bd l).length+2]? =some (.pv (i64 e.to)):=GD (bd l) e 2 (by omega)
 have g1:(Ja (bd l++[e.lo,e.hi,e.to]))[(bd l).length+1]? =some (.pv (i64 e.hi)):=GD (bd l) e 1 (by omega)
 rw[Rj] at g1 g2
 have q1:xb (l.length+1+1) 24:=by unfold xb;omega
 generalize bd l++[e.lo,e.hi,e.to]=cs at *
 by_cases hb1:e.to=to
 ·have b1:(e.to==to)=true:=by simp[hb1]
  have b2:(e.hi==(x:Int) - 1)=false:=uh fun hh=>h1 ⟨hb1,hh⟩
  simp -implicitDefEqProofs only[SP,SA,SQ,sevalprocAttr,fa,Vc,e1,e2,e3,eq_true hq,eq_true hq2,t1,t2,t3,t4,t5,ht,g1,g2,eq_true w1,w2,w2',eq_true q1,b1,b2,ua,tidy,Dc,Jt,yj,Ai,AV.uC,AV.Xo,NV]
 ·have b1:(e.to==to)=false:=uh hb1
  simp -implicitDefEqProofs only[SP,SA,SQ,sevalprocAttr,fa,Vc,e1,e2,e3,eq_true hq,eq_true hq2,t1,t2,t3,t4,t5,ht,g1,g2,eq_true w1,w2,w2',eq_true q1,b1,ua,tidy,Dc,Jt,yj,Ai,AV.uC,AV.Xo,NV]
end
end Go.AM.B1
namespace Go.AM.B1
open Go.AM
def qe (row:List Int):List Nat→List ve→List ve
 | [],l=>l
 |x::xs,l=>qe row xs (Lf x (row.getD x 0) l)
def Qf (row:List Int):List ve:=qe row (List.range 256) []
def Vb (l:List ve):PV:=if l.isEmpty then .ma else .lit 3 (l.map Yt)
theorem zy (x:Int) (l:List ve):Lf x (-2) l=l:=by simp[Lf]
theorem Wv {x to:Int} (h:to≠ -2):Lf x to []=[⟨x,x,to⟩]:=by simp[Lf,h]
theorem gy {x:Int} {l:List ve} {e:ve} (h:e.to≠ -2) (h2:e.hi=x - 1):Lf x e.to (l++[e])=l++[⟨e.lo,x,e.to⟩]:=by simp[Lf,h,h2]
theorem gu {x to:Int} {l:List ve} {e:ve} (h:to≠ -2) (h2:¬(e.to=to∧e.hi=x - 1)):Lf x to (l++[e])=l++[e]++[⟨x,x,to⟩]:=by
 simp only[Lf,if_neg h,List.getLast?_append,List.getLast?_singleton,Option.some_or,if_neg h2]
theorem EG (H:List ba) (d:Nat) (l:List Int):Ra (ic H d) (Ja l)=some (l.map i64):=by
 induction l with
 |nil=>rfl
 |cons a l ih=>simp only[Ja,List.map_cons,Ra,wg,Option.bind_some] at ih ⊢;rw[ih];rfl
theorem VL:∀ (l:List ve),chunk 3 true l.length ((bd l).map i64)=l.map Yt
 | []=>rfl
 |e::l=>by
  have:=VL l
  rw[List.length_cons,chunk]
  simp only[bd,List.flatMap_cons,List.cons_append,List.nil_append,List.map_cons,List.take,List.drop,if_true] at this ⊢
  rw[this];rfl
theorem UK (H:List ba) (id:Nat) (l:List ve) (fl:Nat) (h:H[id]? =some (.seq 3 true (Ja (bd l)) fl l.isEmpty)):ic H deep (.own id l.length)=some (Vb l):=by
 have hl:(l.length * 3=(Ja (bd l)).length)=True:=by rw[pb,Rj];exact eq_self _
 rw[Xb]
 simp only[ic,h,hl,Bool.true_or,and_self,if_true]
 unfold Vb
 cases hn:l.isEmpty with
 |true=>rfl
 |false=>simp only[Bool.false_eq_true,if_false,EG,Option.map_some,VL]
section
variable (row:List Int) (hrow:row.length=256)
include hrow
theorem XL (call:ab):∃ fl,gb (fa (ta call Vc) (fun s=>some (tidy [3,7,8] s))) oa ⟨Jt row 0 0,[.seq 3 true [] 0 true]⟩=
 some (.exit 0,⟨(Jt row (Qf row).length 256).set 9 (.pv (.bool false)),[.seq 3 true (Ja (bd (Qf row))) fl (Qf row).isEmpty]⟩):=by
 unfold Qf
 generalize hxs:List.range 256=xs
 have key:=Pj (g:=fa (ta call Vc) (fun s=>some (tidy [3,7,8] s)))
  (fun x t=>∃ fl l,fl≤l.length * 3∧l.length≤x∧t=⟨Jt row l.length x,[.seq 3 true (Ja (bd l)) fl l.isEmpty]⟩∧qe row xs []=qe row (xs.drop x) l)
  (fun ex t=>∃ fl,ex= .exit 0∧t=⟨(Jt row (qe row xs []).length 256).set 9 (.pv (.bool false)),[.seq 3 true (Ja (bd (qe row xs []))) fl (qe row xs []).isEmpty]⟩)
  oa 256 0 ⟨Jt row 0 (0:Nat),[.seq 3 true [] 0 true]⟩ (by unfold oa;omega) (by omega) ⟨0,[],by simp,by simp,rfl,rfl⟩ ?_ ?_
 ·obtain⟨ex,t,h,_,fl,rfl,rfl⟩:=key
  exact⟨fl,h⟩
 ·rintro x hx t ⟨fl,l,hf,hlx,rfl,hl⟩
  have hd:=dq hx
  rw[hxs] at hd
  obtain⟨to,ht⟩:∃ to,row[x]? =some to:=⟨row[x],by simp[hrow,hx]⟩
  have hgd:row.getD x 0=to:=by simp[List.getD_eq_getElem?_getD,ht]
  rw[hd,qe,hgd] at hl
  by_cases h2:to= -2
  ·rw[h2,zy] at hl
   exact .inl ⟨_,PO call row x to fl hx ht l _ h2,fl,l,hf,by omega,rfl,hl⟩
  rcases List.eq_nil_or_concat l with rfl | ⟨l',e,rfl⟩
  ·rw[Wv h2] at hl
   have hf0:fl=0:=by simpa using hf
   subst hf0
   exact .inl ⟨_,LM call row x to hx ht true h2,0,[⟨x,x,to⟩],by simp,by simp,rfl,hl⟩
  ·simp only[List.concat_eq_append] at *
   have hem:(l'++[e]).isEmpty=false:=by simp
   have hlen:(l'++[e]).length=l'.length+1:=by simp
   rw[hlen] at hf hlx
   rw[hem,hlen,Tl]
   by_cases h3:e.to=to∧e.hi=(x:Int) - 1
   ·obtain⟨h3,h4⟩:=h3
    rw[← h3,gy (by rw[h3];exact h2) h4] at hl
    refine .inl ⟨_,vO call row x to fl hx ht l' e (by omega) hf h2 h3 h4,(l'.length+1) * 3,l'++[⟨e.lo,x,e.to⟩],by simp,by simp;omega,?_,hl⟩
    rw[Tl];simp
   ·rw[gu h2 h3] at hl
    refine .inl ⟨_,FP call row x to fl hx ht l' e (by omega) hf h2 h3,fl,_,?_,?_,?_,hl⟩
    ·simp;omega
    ·simp;omega
    ·rw[Tl,Tl,zD];simp[Ja]
 ·rintro t ⟨fl,l,hf,hlx,rfl,hl⟩
  rw[List.drop_eq_nil_of_le (by rw[← hxs,List.length_range];exact Nat.le_refl _)] at hl
  refine⟨.exit 0,_,?_,rfl,fl,rfl,rfl⟩
  rw[hl]
  have e1:decide (((256:Nat):Int) < 256)=false:=by decide
  simp -implicitDefEqProofs only[SP,SA,SQ,sevalprocAttr,fa,Vc,e1,Jt,qe]
theorem HQ:Bp [vi row]=some (Vb (Qf row)):=by
 obtain⟨fl,hl⟩:=XL row hrow (Ca (fun _=>none) 8)
 have ht:=UK [.seq 3 true (Ja (bd (Qf row))) fl (Qf row).isEmpty] 0 (Qf row) fl rfl
 have h9:(row.map i64).map AV.pv=Ja row:=(Js row).symm
 have p0:((Ja row).length=256)=True:=by rw[pb,hrow];exact eq_self _
 have p1:(256≤(Ja row).length)=True:=by rw[pb,hrow];exact eq_true (Nat.le_refl _)
 have p2:List.take 256 (Ja row)=Ja row:=List.take_of_length_le (by rw[pb,hrow];exact Nat.le_refl _)
 have p3:=Hs row
 have p5:=KE row
 have p6:=EG [] 0 row
 have p8:List.take 256 (row.map i64)=row.map i64:=List.take_of_length_le (by rw[List.length_map,hrow];exact Nat.le_refl _)
 have p7:(256≤(row.map i64).length)=True:=by rw[List.length_map,hrow];exact eq_true (Nat.le_refl _)
 have p4:((row.map i64).length=256)=True:=by rw[List.length_map,hrow];exact eq_self _
 generalize Qf row=es at *
 simp only[tidy,Dc,Jt] at hl
 simp -implicitDefEqProofs only[Bp,SP,SA,SQ,sevalprocAttr,mu,h9,p0,p1,p2,p3,p4,p5,p6,p7,p8,Ke,Ip,tidy,Dc]
 rw[hl]
 simp -implicitDefEqProofs only[SP,SA,SQ,sevalprocAttr,ht]
end
end Go.AM.B1
namespace Go.AM.B1
open Go.AM
def Qs (a:Int):List Int→Nat→Option Nat
 | [],_=>none
 |b::l,k=>if a=b then some k else Qs a l (k+1)
def DK (l:List Int) (k:Nat):List (PV×PV):=(l.zipIdx k).map fun p=>(i64 p.1,i64 p.2)
theorem qA (a:Int) (l:List Int) (k:Nat):DK (a::l) k=(i64 a,i64 k)::DK l (k+1):=rfl
theorem GF (a:Int):∀ (l:List Int) (k:Nat),DK (l++[a]) k=DK l k++[(i64 a,i64 (k+l.length:Nat))]
 | [],k=>by simp[DK]
 |b::l,k=>by rw[List.cons_append,qA,GF a l (k+1),qA];simp;omega
theorem zN {a:Int}:∀ {l:List Int} {k i:Nat},Qs a l k=some i→k≤i
 |b::l,k,i,h=>by
  simp only[Qs] at h
  split at h
  ·injection h with h;omega
  ·have:=zN h;omega
theorem qJ (a:Int):∀ (l:List Int) (k j:Nat),dm (.one 1) (i64 a) (DK l k) j=some ((Qs a l k).map fun i=>(j+(i - k),i64 i)):=by
 intro l
 induction l with
 |nil=>intro k j;rfl
 |cons b l ih=>
  intro k j
  have he:Zi (.one 1) (i64 a) (i64 b)=some (decide (a=b)):=by
   show (if IntKind.i64=IntKind.i64 then some (a==b) else none)=_
   rw[if_pos rfl]
   congr 1
  rw[qA,dm,he]
  simp only[Option.bind_some,Qs]
  by_cases h:a=b
  ·simp[h]
  ·rw[if_neg h,ih]
   simp only[h,decide_false,Bool.false_eq_true,if_false,Option.some.injEq]
   cases hi:Qs a l (k+1) with
   |none=>rfl
   |some i=>
    have:=zN hi
    simp only[Option.map_some,Option.some.injEq,Prod.mk.injEq,and_true]
    omega
theorem xD (a:Int):(Zi (.one 1) (i64 a) (i64 a)).isSome=true:=rfl
abbrev Gn (R0 R1:ba) (S:PV) (nl nr:Bool) (fr:Nat) (sets:List Al) (C:List Int) (n:Nat) (L M:ba) (O:List Int) (out:List PV) (no:Bool) (T:List ba):List ba:=
 Vh R0 R1 S nl nr fr sets C n (L::M:: .box [.pv .ma]:: .map (DK O 0):: .tok 1 O.length false:: .box [.uq 12 no 1 out]:: .tok 1 out.length no::T)
abbrev Cx (q:Nat) (k:Int) (O:List Int) (mb:List Int) (x:Int):Tr:=
 (((((((((Tr.lf.set 32 (.pv (i64 x))).set 31 (.pv (vi mb))).set 7 (.ptr q 0)).set 6 (.pv (i64 k))).set 5 (.ptr 11 0)).set 4 (.uq 10 false 1 (O.map i64))).set 3 (.mp 9)).set 2 (.ptr 8 0)).set 0 (.ptr 3 0))
def Oi (x:Nat) (to:Int) (r:List Int×List Int):List Int×List Int:=
 if to < 0 then r else match Qs to r.1 0 with
  |some k=>(r.1,r.2.set x k)
  |none=>(r.1++[to],r.2.set x r.1.length)
section
variable (call:ab) (R0 R1:ba) (S:PV) (nl nr:Bool) (fr:Nat) (sets:List Al) (C:List Int) (n:Nat) (L M:ba) (O:List Int) (out:List PV) (no:Bool) (J:List ba)
 (k:Int) (mb row:List Int) (x:Nat) (to:Int) (q:Nat) (hx:x < 256) (hto:mb[x]? =some to)
include hx hto
theorem qO (h:to < 0):
 fa (ta call oc) (fun s=>some (tidy [0,2,3,4,5,6,7,31,32] s)) ⟨Cx q k O mb x,Gn R0 R1 S nl nr fr sets C n L M O out no (J++[.box (Ja row)])⟩=
  some (.norm,⟨Cx q k O mb (x+1:Nat),Gn R0 R1 S nl nr fr sets C n L M O out no (J++[.box (Ja row)])⟩):=by
 have e1:decide ((x:Int) < 256)=true:=Ga (by omega)
 have e2:decide (to < 0)=true:=Ga (by omega)
 have hq:Fa (x:Int) 256:=by unfold Fa;omega
 have t1:((x:Int)).toNat=x:=by simp
 have t2:=Ua (i:=x) (n:=256) hx (by unfold maxLen;omega)
 have ht:(mb.map i64)[x]? =some (i64 to):=by rw[List.getElem?_map,hto];rfl
 simp -implicitDefEqProofs only[SP,SA,SQ,sevalprocAttr,-List.reduceReplicate,fa,oc,e1,e2,eq_true hq,t1,t2,ht,ua,tidy,Dc,Cx,Gn,Vh]
theorem nS (hq13:q=J.length+1+1+1+1+1+1+1+1+1+1+1+1+1) (hrow:row.length=256) (h:¬to < 0) {j:Nat} (hj:Qs to O 0=some j):
 fa (ta call oc) (fun s=>some (tidy [0,2,3,4,5,6,7,31,32] s)) ⟨Cx q k O mb x,Gn R0 R1 S nl nr fr sets C n L M O out no (J++[.box (Ja row)])⟩=
  some (.norm,⟨Cx q k O mb (x+1:Nat),Gn R0 R1 S nl nr fr sets C n L M O out no (J++[.box (Ja (row.set x j))])⟩):=by
 have e1:decide ((x:Int) < 256)=true:=Ga (by omega)
 have e2:decide (to < 0)=false:=Ia (by omega)
 have hq:Fa (x:Int) 256:=by unfold Fa;omega
 have t1:((x:Int)).toNat=x:=by simp
 have t2:=Ua (i:=x) (n:=256) hx (by unfold maxLen;omega)
 have ht:(mb.map i64)[x]? =some (i64 to):=by rw[List.getElem?_map,hto];rfl
 have hf:=qJ to O 0 0
 rw[hj] at hf
 simp only[Option.map_some] at hf
 have his:=xD to
 have hle:(x+1≤(Ja row).length)=True:=by rw[pb];exact eq_true (by omega)
 subst hq13
 simp -implicitDefEqProofs only[SP,SA,SQ,sevalprocAttr,-List.reduceReplicate,fa,oc,e1,e2,eq_true hq,t1,t2,ht,hf,eq_true his,hle,qj,Eo,zo,ua,tidy,Dc,Cx,Gn,Vh]
theorem NR (hq13:q=J.length+1+1+1+1+1+1+1+1+1+1+1+1+1) (hrow:row.length=256) (h:¬to < 0) (hj:Qs to O 0=none) (hO:O.length < 100):
 fa (ta call oc) (fun s=>some (tidy [0,2,3,4,5,6,7,31,32] s)) ⟨Cx q k O mb x,Gn R0 R1 S nl nr fr sets C n L M O out no (J++[.box (Ja row)])⟩=
  some (.norm,⟨Cx q k (O++[to]) mb (x+1:Nat),Gn R0 R1 S nl nr fr sets C n L M (O++[to]) out no (J++[.box (Ja (row.set x O.length))])⟩):=by
 have e1:decide ((x:Int) < 256)=true:=Ga (by omega)
 have e2:decide (to < 0)=false:=Ia (by omega)
 have hq:Fa (x:Int) 256:=by unfold Fa;omega
 have t1:((x:Int)).toNat=x:=by simp
 have t2:=Ua (i:=x) (n:=256) hx (by unfold maxLen;omega)
 have ht:(mb.map i64)[x]? =some (i64 to):=by rw[List.getElem?_map,hto];rfl
 have hf:=qJ to O 0 0
 rw[hj] at hf
 simp only[Option.map_none] at hf
 have his:=xD to
 have hle:(x+1≤(Ja row).length)=True:=by rw[pb];exact eq_true (by omega)
 have hlen:(O.map i64).length=O.length:=by simp
 have q1:xb (O.length+1) 8:=by unfold xb;omega
 have hp:=GF to O 0
 rw[Nat.zero_add] at hp
 have hlen2:(O++[to]).length=O.length+1:=by simp
 have hmap:(O++[to]).map i64=O.map i64++[i64 to]:=by simp
 subst hq13
 unfold Cx Gn
 rw[hp,hlen2,hmap]
 simp -implicitDefEqProofs only[SP,SA,SQ,sevalprocAttr,-List.reduceReplicate,fa,oc,e1,e2,eq_true hq,t1,t2,ht,hf,eq_true his,hle,hlen,eq_true q1,qj,Eo,zo,ua,tidy,Dc,Vh,Ai,AV.uC,AV.Xo]
end
end Go.AM.B1
