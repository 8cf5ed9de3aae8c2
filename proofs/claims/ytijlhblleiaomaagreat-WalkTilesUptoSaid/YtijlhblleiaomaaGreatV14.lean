/- What functions of the program compute. -/
import Derived.Test.YtijlhblleiaomaaGreatV12
import Derived.Test.YtijlhblleiaomaaGreatV13
import Derived.Test.YtijlhblleiaomaaGreatV4
import Derived.Test.YtijlhblleiaomaaGreatV3
import Derived.Test.YtijlhblleiaomaaGreatV7
import Derived.Test.YtijlhblleiaomaaGreatV8
import Derived.Test.YtijlhblleiaomaaGreatV11
set_option linter.unusedVariables false
set_option linter.unusedSimpArgs false
namespace Go.AM.B1
open Go.AM Go.AM.So
structure GJ where
 kind:Int
 size:Nat
 u:Int
theorem pA (l:List (List ze)):∀ (bs:List Int) (i:Nat) (st:Int),∃ k:Nat,i≤k∧k≤i+bs.length∧((Og l i st bs=((k:Int),1)∧i < k)∨(Og l i st bs=((k:Int),2)∧k=i+bs.length)∨(Og l i st bs=((k:Int),3)∧k < i+bs.length))
 | [],i,st=>⟨i,Nat.le_refl _,by simp,.inr (.inl ⟨rfl,by simp⟩)⟩
 |b::r,i,st=>by
  rw[Og]
  by_cases h1:(El l st b).2=false
  ·rw[if_pos h1];exact⟨i,Nat.le_refl _,by simp,.inr (.inr ⟨rfl,by simp⟩)⟩
  ·rw[if_neg h1]
   by_cases h2:(El l st b).1= -1
   ·rw[if_pos h2];exact⟨i+1,by omega,by simp,.inl ⟨rfl,by omega⟩⟩
   ·rw[if_neg h2]
    obtain⟨k,k1,k2,k3⟩:=pA l r (i+1) (El l st b).1
    refine⟨k,by omega,by simp;omega,?_⟩
    rcases k3 with⟨a,b⟩ | ⟨a,b⟩ | ⟨a,b⟩
    ·exact .inl ⟨a,by omega⟩
    ·exact .inr (.inl ⟨a,by simp;omega⟩)
    ·exact .inr (.inr ⟨a,by simp;omega⟩)
section
variable (ss:List Lb) (l:List (List ze))
def wC (bs:List Int):GJ:=
 if (Og l 0 0 bs).2=1 then ⟨1,(Og l 0 0 bs).1.toNat,(Lx (bs.take (Og l 0 0 bs).1.toNat) ss).getD 0⟩
 else if (Og l 0 0 bs).2=2 then ⟨3,(Og l 0 0 bs).1.toNat,0⟩ else ⟨2,max (Og l 0 0 bs).1.toNat 1,0⟩
theorem Uz {bs:List Int} (h:bs≠[]):1≤(wC ss l bs).size∧(wC ss l bs).size≤bs.length:=by
 have hl:0 < bs.length:=List.length_pos_iff.2 h
 obtain⟨k,k1,k2,k3⟩:=pA l bs 0 0
 unfold wC
 rcases k3 with⟨a,b⟩ | ⟨a,b⟩ | ⟨a,b⟩ <;> rw[a] <;> simp <;> omega
def vD:Nat→List Int→List GJ
 |0,_=>[]
 |n+1,bs=>if bs=[] then [] else wC ss l bs::vD n (bs.drop (wC ss l bs).size)
theorem IG:∀ {n m:Nat} {bs:List Int},bs.length≤n→bs.length≤m→vD ss l n bs=vD ss l m bs
 |0,m,bs,h1,h2=>by
  have:bs=[]:=List.eq_nil_of_length_eq_zero (by omega)
  subst this
  cases m <;> simp[vD]
 |n+1,0,bs,h1,h2=>by
  have:bs=[]:=List.eq_nil_of_length_eq_zero (by omega)
  subst this
  simp[vD]
 |n+1,m+1,bs,h1,h2=>by
  rw[vD,vD]
  by_cases h:bs=[]
  ·rw[if_pos h,if_pos h]
  ·rw[if_neg h,if_neg h]
   have:=Uz ss l h
   rw[IG (n:=n) (m:=m) (by rw[List.length_drop];omega) (by rw[List.length_drop];omega)]
def Gy (bs:List Int):List GJ:=vD ss l bs.length bs
theorem XS:Gy ss l []=[]:=rfl
theorem GA {bs:List Int} (h:bs≠[]):Gy ss l bs=wC ss l bs::Gy ss l (bs.drop (wC ss l bs).size):=by
 have hl:0 < bs.length:=List.length_pos_iff.2 h
 have hs:=Uz ss l h
 obtain⟨n,hn⟩:∃ n,bs.length=n+1:=⟨bs.length - 1,by omega⟩
 unfold Gy
 conv=>lhs;rw[hn]
 rw[vD,if_neg h,IG ss l (n:=n) (m:=(bs.drop (wC ss l bs).size).length) (by rw[List.length_drop];omega) (Nat.le_refl _)]
end
end Go.AM.B1
namespace Go.AM.B1
open Go.AM Go.AM.So
def Bp (e:GJ) (at_:Int):PV:= .agg [i64 e.kind,i64 at_,i64 e.size,i64 e.u,i64 0]
theorem uT (H:List ba) (es:List PV) (k:Nat) (hk:k≤es.length):ye H 1 (.pv (.lit 1 es)) none (some (k:Int))=some (.pv (.lit 1 (es.take k))):=by
 simp only[ye,Option.getD_some,Option.getD_none]
 rw[if_pos ⟨by decide,trivial,by omega,by omega,by omega⟩]
 simp
theorem nR {T:PV} {ss:List Lb} {l:List (List ze)} {bs:List Int} (hT:Bo T ss l) (Ba:Tb ss) (ho:∀ e∈l,Ej e) (hb:∀ b∈bs,0≤b∧b≤255) (hw:bs.length≤maxLen):
 Zf [T,.lit 1 (bs.map u8)]=some (Bp (wC ss l bs) 0):=by
 have hB:Wi (.lit 1 (bs.map u8)) bs:=⟨.inr rfl,hb⟩
 have hm:=FM hT ho hB hw
 obtain⟨k,_,k2,k3⟩:=pA l bs 0 0
 rw[Nat.zero_add] at k2
 have hsl:=fun H=>uT H (bs.map u8) k (by simpa using k2)
 have hB2:Wi (.lit 1 ((bs.map u8).take k)) (bs.take k):=⟨.inr (by rw[List.map_take]),fun b h=>hb b (List.mem_of_mem_take h)⟩
 have hd:=hU hT Ba hB2
 obtain⟨R,rfl⟩:∃ R,T= .rp R 0:=by
  obtain⟨S',NX,DG,RW,h,_⟩:=hT.ex
  exact⟨_,h⟩
 rcases k3 with⟨a,b⟩ | ⟨a,b⟩ | ⟨a,b⟩ <;> rw[a] at hm <;> dsimp only at hm
 ·have he:wC ss l bs=⟨1,k,(Lx (bs.take k) ss).getD 0⟩:=by simp[wC,a]
  have e1:((1:Int)==1)=true:=rfl
  rw[he]
  cases hv:Lx (bs.take k) ss with
  |none=>
   rw[hv] at hd
   dsimp only at hd
   simp -implicitDefEqProofs only[Zf,SX,sevalprocAttr,xl,hm,hsl,hd,e1]
   rfl
  |some v=>
   rw[hv] at hd
   dsimp only at hd
   simp -implicitDefEqProofs only[Zf,SX,sevalprocAttr,xl,hm,hsl,hd,e1]
   rfl
 ·have he:wC ss l bs=⟨3,k,0⟩:=by simp[wC,a]
  have e1:((2:Int)==1)=false:=rfl
  have e2:((2:Int)==2)=true:=rfl
  rw[he]
  simp -implicitDefEqProofs only[Zf,SX,sevalprocAttr,xl,hm,e1,e2]
  rfl
 ·have he:wC ss l bs=⟨2,max k 1,0⟩:=by simp[wC,a]
  have e1:((3:Int)==1)=false:=rfl
  have e2:((3:Int)==2)=false:=rfl
  have hmx:Mo true [AV.pv (.int .i64 (k:Int)),AV.pv (.int .i64 1)]=some (i64 ((max k 1:Nat):Int)):=by
   have:((max k 1:Nat):Int)=max (k:Int) 1:=by omega
   rw[this]
   show some (PV.int .i64 (if (1:Int) > (k:Int) then 1 else (k:Int)))=some (.int .i64 (max (k:Int) 1))
   rw[show (if (1:Int) > (k:Int) then 1 else (k:Int))=max (k:Int) 1 from by split <;> omega]
  rw[he]
  simp -implicitDefEqProofs only[Zf,SX,sevalprocAttr,xl,hm,e1,e2,hmx,List.map]
  rfl
end Go.AM.B1
namespace Go.AM.B1
open Go.AM Go.AM.So
def TY (T R:PV) (un tot out:Int) (st fin:Bool):ba:= .box ([T,i64 un,R,i64 tot,i64 out,.bool st,.bool fin].map .pv)
structure YX (T:PV) (cd:Int→Option (List Int)):Prop where
 enc:∀ u,Hi [T,i64 u]=some (match cd u with | some b=> .mc [.lit 1 (b.map u8),.bool true] | none=> .mc [.ma,.bool false])
 len:∀ u b,cd u=some b→b.length≤8
 ptr:∃ R,T= .rp R 0
structure TQ (U:AV) (us:List Int) (n0:Nat):Prop where
 len:∀ H,Vb H 0 U=some us.length
 RZ:∀ H (i:Nat) (h:i < us.length),wa H 1 U i=some (.pv (.rp [i64 us[i]] 0))
 cut:∀ n,n0≤n→AV.cut n deep U=some U
theorem qD {A:List ba} {id n sz bytes:Nat} {nl nl' ag:Bool} {h:Af} {es ys:List PV} (hg:A[id]? =some (.tok sz n nl')) (hn:n=es.length) (hr:qb (es.length+ys.length) bytes):
 Yb A false h sz ag bytes (.uq id nl sz es) (.pv (.lit sz ys))=some (.uq id (nl&&ys.isEmpty) sz (es++ys),A.set id (.tok sz (es.length+ys.length) (nl&&ys.isEmpty))):=by
 subst hn
 simp only[Yb,Bool.false_eq_true,if_false,hg,Kf,if_true,Option.bind_some]
 rw[if_pos ⟨trivial,trivial,trivial,hr⟩]
section
variable {A:List ba} {c:Nat}
end
end Go.AM.B1
namespace Go.AM.B1
open Go.AM Go.AM.So
def yF (es:List PV) (nl:Bool) (rest:List ba):List ba:= .box [.uq 1 nl 5 es]:: .tok 5 es.length nl::rest
theorem yU (es:List PV) (nl:Bool) (rest:List ba):xa (yF es nl rest) false 1 (.ptr 0 0)=some (.uq 1 nl 5 es):=rfl
def Ol (e:GJ) (a:Int):ba:= .box [.pv (i64 e.kind),.pv (i64 a),.pv (i64 e.size),.pv (i64 e.u),.pv (i64 0)]
theorem GQ (H:List ba) (e:GJ) (a:Int):Oa (H++[.box [.pv (i64 0),.pv (i64 0),.pv (i64 0),.pv (i64 0),.pv (i64 0)]]) 5 (.ptr H.length 0) (.pv (Bp e a))=some (H++[Ol e a]):=by
 have h1:(H++[ba.box [.pv (i64 0),.pv (i64 0),.pv (i64 0),.pv (i64 0),.pv (i64 0)]])[H.length]? =some (.box [.pv (i64 0),.pv (i64 0),.pv (i64 0),.pv (i64 0),.pv (i64 0)]):=by simp
 unfold Oa
 rw[if_pos ⟨rfl,rfl⟩]
 simp only[h1]
 rw[if_pos (by decide)]
 congr 1
 simp[Ol,oa,Bp,AV.cells,PV.cells,List.map]
theorem xS (H:List ba) (e:GJ) (a:Int):xa (H++[Ol e a]) true 5 (.ptr H.length 0)=some (.pv (Bp e a)):=by
 have h1:(H++[Ol e a])[H.length]? =some (Ol e a):=by simp
 unfold xa
 simp only[h1]
 rfl
theorem WI {call:Wa} {E:Tr} (h7:E.get 7= .ptr 0 0) (es:List PV) (nl:Bool) (rest:List ba) (e:GJ) (a:Int) (hr:qb (es.length+1) 40):
 ∃ E',Nk (ua call vd) (Cd call [Co 8 (.alloc [(.int .i64 0),(.int .i64 0),(.int .i64 0),(.int .i64 0),(.int .i64 0)]),jS 5 8 13] ⟨E.set 13 (.pv (Bp e a)),yF es nl rest⟩)=some (.norm,⟨E',yF (es++[Bp e a]) false (rest++[Ol e a])⟩):=by
 have st:=GQ (yF es nl rest) e a
 have ld:=xS (yF es nl rest) e a
 have l0:xa (yF es nl rest++[Ol e a]) false 1 (.ptr 0 0)=some (.uq 1 nl 5 es):=rfl
 have ap:Yb (yF es nl rest++[Ol e a]) false .uq 5 true 40 (.uq 1 nl 5 es) (.pv (.lit 5 [Bp e a]))=some (.uq 1 false 5 (es++[Bp e a]),.box [.uq 1 nl 5 es]:: .tok 5 (es++[Bp e a]).length false::(rest++[Ol e a])):=by
  rw[qD (n:=es.length) (nl':=nl) (id:=1) rfl rfl (by simpa using hr)]
  simp[yF]
 have s7:Oa (.box [.uq 1 nl 5 es]:: .tok 5 (es++[Bp e a]).length false::(rest++[Ol e a])) 1 (.ptr 0 0) (.uq 1 false 5 (es++[Bp e a]))=some (yF (es++[Bp e a]) false (rest++[Ol e a])):=rfl
 have bsl:∀ H:List ba,((if (List.map AV.pv (Bp e a).cells).length=5∧(List.map AV.pv (Bp e a).cells).all AV.one=true then some (oa [AV.pv (PV.int IntKind.i64 0),AV.pv (PV.int IntKind.i64 0),AV.pv (PV.int IntKind.i64 0),AV.pv (PV.int IntKind.i64 0),AV.pv (PV.int IntKind.i64 0)] 0 (List.map AV.pv (Bp e a).cells)) else none).bind fun cs=>
  if cs.all AV.one=true then Option.map (fun ps=>(AV.pv (PV.lit 5 [PV.agg (List.take 5 ps)]),H)) (ve cs) else none)=some (.pv (.lit 5 [Bp e a]),H):=fun H=>rfl
 generalize yF es nl rest=H0 at *
 generalize yF (es++[Bp e a]) false (rest++[Ol e a])=H3 at *
 generalize H0++[Ol e a]=H1 at *
 generalize Bp e a=ev at *
 simp -implicitDefEqProofs only[SX,sevalprocAttr,vd,st,ld,l0,ap,s7,h7,bsl]
 exact⟨_,rfl⟩
end Go.AM.B1
namespace Go.AM.B1
open Go.AM Go.AM.So
theorem wK (ss:List Lb) (l:List (List ze)):∀ (bs:List Int),(Gy ss l bs).length≤bs.length:=by
 have key:∀ (n:Nat) (bs:List Int),(vD ss l n bs).length≤bs.length:=by
  intro n
  induction n with
  |zero=>intro bs;exact Nat.zero_le _
  |succ n ih=>
   intro bs
   rw[vD]
   split
   ·exact Nat.zero_le _
   ·next h=>
    have h1:=Uz ss l h
    have h2:=ih (bs.drop (wC ss l bs).size)
    rw[List.length_drop] at h2
    rw[List.length_cons]
    omega
 exact fun bs=>key _ bs
theorem gN {B:PV} {bs:List Int} (hB:Wi B bs) (hw:bs.length≤1000000000000):∃ B',Rj [B]=some B'∧Wi B' bs∧dD B'=some (bs.map u8)∧(AV.pv B').one=true:=by
 rcases hB.is with⟨h,hn⟩ | h
 ·subst h
  have:bs=[]:=by simpa using hn
  subst this
  exact⟨.ma,by kernel_rfl,hB,rfl,rfl⟩
 ·subst h
  refine⟨.lit 1 (bs.map u8),?_,hB,rfl,rfl⟩
  have e0:∀ H,Vs H 2 (.pv (.lit 1 (bs.map u8))) (.pv .ma)=some false:=fun H=>rfl
  have ap:Yb [.tok 1 0 false] false .uq 1 false 1 (.uq 0 false 1 []) (.pv (.lit 1 (bs.map u8)))=some (.uq 0 false 1 (bs.map u8),[.tok 1 bs.length false]):=by
   rw[qD (n:=0) (nl':=false) rfl rfl (by unfold qb;simp;omega)]
   simp
  have hfr:∀ H,fresh H .uq 1 false 0 []=some (.uq H.length false 1 [],H++[.tok 1 0 false]):=fun H=>rfl
  simp -implicitDefEqProofs only[Rj,SX,sevalprocAttr,Is,e0,ap,hfr]
def Bm:Nat→List GJ→List PV
 |_,[]=>[]
 |k,e::r=>Bp e k::Bm (k+e.size) r
theorem zL:∀ (k:Nat) (l:List GJ),(Bm k l).length=l.length
 |_,[]=>rfl
 |k,e::r=>by rw[Bm,List.length_cons,List.length_cons,zL]
theorem mP {T:PV} {ss:List Lb} {l:List (List ze)} {bs:List Int} (hT:Bo T ss l) (Ba:Tb ss) (ho:∀ e∈l,Ej e) (hb:∀ b∈bs,0≤b∧b≤255) (hw:bs.length≤maxLen):
 ∀ (n k:Nat),bs.length - k < n→Uu T (bs.map u8) n k=some ((Bm k (Gy ss l (bs.drop k))).map ([·]))
 |0,k,h=>by omega
 |n+1,k,h=>by
  rw[Uu]
  by_cases hk:bs.length≤k
  ·rw[if_pos (by simpa using hk),List.drop_eq_nil_of_le hk];rfl
  ·rw[if_neg (by simpa using hk)]
   have hne:bs.drop k≠[]:=fun e=>by have:=List.length_drop (i:=k) (l:=bs);rw[e] at this;simp at this;omega
   have hr:=nR hT Ba ho (bs:=bs.drop k) (fun b hb'=>hb b (List.mem_of_mem_drop hb')) (by rw[List.length_drop];omega)
   have hs:=Uz ss l hne
   rw[List.length_drop] at hs
   rw[← List.map_drop,hr,Option.bind_some,GA ss l hne,List.drop_drop]
   generalize wC ss l (bs.drop k)=e at *
   show (if (1:Int)≤(e.size:Int)∧(e.size:Int)+k≤(bs.map u8).length then _ else _)=_
   rw[if_pos ⟨by omega,by rw[List.length_map];omega⟩,Int.toNat_natCast,mP hT Ba ho hb hw n (k+e.size) (by omega)]
   rfl
theorem DU:∀ (k:Nat) (l:List GJ),((Bm k l).map ([·])).all (nO 1)=true
 |_,[]=>rfl
 |k,e::r=>by
  rw[Bm,List.map_cons,List.all_cons,DU]
  rfl
def eN:Nat→List GJ→List ba
 |_,[]=>[]
 |k,e::r=>Ol e k::eN (k+e.size) r
theorem mH {call:Wa} {E:Tr} (h7:E.get 7= .ptr 0 0):∀ (ev:List GJ) (k:Nat) (es:List PV) (nl:Bool) (rest:List ba),qb (es.length+ev.length) 40→
 ui (fun x H=>(fun e H=>Nk (ua call vd) (Cd call [Co 8 (.alloc [(.int .i64 0),(.int .i64 0),(.int .i64 0),(.int .i64 0),(.int .i64 0)]),jS 5 8 13] ⟨e,H⟩)) (xC [] (Jp [13] x E)) H) ((Bm k ev).map ([·])) (yF es nl rest)=some (.norm,yF (es++Bm k ev) (nl&&ev.isEmpty) (rest++eN k ev))
 | [],k,es,nl,rest,hr=>by simp[Bm,eN,ui]
 |e::ev,k,es,nl,rest,hr=>by
  obtain⟨E',h1⟩:=WI (call:=call) h7 es nl rest e k (by unfold qb at *;simp at hr;omega)
  have h2:=mH (call:=call) h7 ev (k+e.size) (es++[Bp e k]) false (rest++[Ol e k]) (by unfold qb at *;simp at hr ⊢;omega)
  rw[Bm,List.map_cons,ui]
  have h1':∀ X,X=some (Ex.norm,(⟨E',yF (es++[Bp e k]) false (rest++[Ol e k])⟩:St))→Pz (ui (fun x H=>(fun e H=>Nk (ua call vd) (Cd call [Co 8 (.alloc [(.int .i64 0),(.int .i64 0),(.int .i64 0),(.int .i64 0),(.int .i64 0)]),jS 5 8 13] ⟨e,H⟩)) (xC [] (Jp [13] x E)) H) ((Bm (k+e.size) ev).map ([·]))) X=some (.norm,yF (es++Bp e k::Bm (k+e.size) ev) (nl&&(e::ev).isEmpty) (rest++eN k (e::ev))):=by
   rintro X rfl
   refine Eq.trans h2 ?_
   rw[List.append_assoc,List.append_assoc]
   simp[eN]
  exact h1' _ h1
theorem lI {call:Wa} {E:Tr} {caps:List AV} {cs:List PV} {ev:List GJ} {k:Nat} {rest:List ba} (h7:E.get 7= .ptr 0 0) (h12:E.get 12= .Fk 99 caps) (hc:ve caps=some cs) (hF:Bf cs=some ((Bm k ev).map ([·]))) (hr:ev.length * 40≤140737488355328):
 ua call (.kv 99 Bf (.t 12) [13] [Co 8 (.alloc [(.int .i64 0),(.int .i64 0),(.int .i64 0),(.int .i64 0),(.int .i64 0)]),jS 5 8 13] vd) ⟨E,yF [] true rest⟩=some (.norm,⟨E,yF (Bm k ev) ev.isEmpty (rest++eN k ev)⟩):=by
 rw[JS]
 have hv:fp 99 Bf [13].length ((AO.t 12).ev E)=some ((Bm k ev).map ([·])):=by
  show fp 99 Bf 1 (E.get 12)=_
  rw[h12]
  simp only[fp,if_true,hc,Option.bind_some,hF]
  rw[if_pos (DU k ev)]
 rw[hv]
 have h:=mH (call:=call) h7 ev k [] true rest (by unfold qb;simpa using hr)
 show NR E (ui _ _ _)=_
 rw[List.nil_append,Bool.true_and] at h
 exact (congrArg (NR E) h).trans rfl
theorem rN (H:List ba) (v:AV) (h:v.one=true):xa (H++[.box [v]]) false 1 (.ptr H.length 0)=some v:=by
 have h1:(H++[ba.box [v]])[H.length]? =some (.box [v]):=by simp
 unfold xa
 simp only[h1]
 cases v <;> first | rfl | (simp[AV.one] at h;done) | skip
theorem IL (H:List ba) (v:AV) (p:PV) (h:(AV.pv p).one=true) (hc:(AV.pv p).cells=[.pv p]):Oa (H++[.box [v]]) 1 (.ptr H.length 0) (.pv p)=some (H++[.box [.pv p]]):=by
 have h1:(H++[ba.box [v]])[H.length]? =some (.box [v]):=by simp
 unfold Oa
 rw[hc,if_pos ⟨rfl,by simp[h]⟩]
 simp only[h1]
 rw[if_pos (by simp)]
 simp[oa]
theorem CL {call:Wa} {T B B':PV} {fr:Int} {H:List ba} (hT:(AV.pv T).one=true) (hB:(AV.pv B).one=true) (hB':(AV.pv B').one=true) (hTc:T.cells=[T]) (hBc:B.cells=[B]) (hc:B'.cells=[B']) (hcl:Rj [B]=some B'):
 Ri call Rl [.pv T,.pv B,.pv (i64 fr)] H=some (.Fk 99 [.pv (.rp [T] 0),.pv (.rp [i64 fr] 0),.pv (.rp [B'] 0)],H++[.dead]):=by
 have ld:=rN H (.pv B) hB
 have st:=IL H (.pv B) B' hB' (by simp[AV.cells,hc])
 have h1:(H++[ba.box [.pv B']])[H.length]? =some (.box [.pv B']):=by simp
 have h2:(H++[ba.box [.pv B']]).set H.length .dead=H++[.dead]:=by simp
 simp -implicitDefEqProofs only[SX,sevalprocAttr,Rl,hT,hB,hB',hTc,hBc,hc,ld,st,hcl,Be,h1,h2,lg,List.map,List.all,List.length]
theorem cQ {R:List PV} {B B':PV} {fr:Int} {ev:List GJ} {k:Nat} (hcl:Rj [B]=some B') (hc1:B.cells=[B]) (hb1:(AV.pv B).one=true) (hc2:B'.cells=[B']) (h1:(AV.pv B').one=true)
 (hI:Bf [.rp [.rp R 0] 0,.rp [i64 fr] 0,.rp [B'] 0]=some ((Bm k ev).map ([·]))) (hlen:ev.length≤1000000000000):∃ V,Mc [.rp R 0,B,i64 fr]=some V∧Vi 5 V (Bm k ev):=by
 have hev:=CL (call:=Ea Ee 7) (T:= .rp R 0) (fr:=fr) (H:=yF [] true []) rfl hb1 h1 rfl hc1 hc2 hcl
 have h98':Ee 98=some Rl:=rfl
 have hgh:∀ E:Tr,E.get 7= .ptr 0 0→Be (.Ct 7 0 5) ⟨E,[.box [.pv .ma]]⟩=some ⟨E,yF [] true []⟩:=fun E h=>by
  simp only[Be,h]
  rfl
 have hrg:=fun E h7 h12=>lI (call:=Ea Ee 8) (E:=E) (caps:=[.pv (.rp [.rp R 0] 0),.pv (.rp [i64 fr] 0),.pv (.rp [B'] 0)]) (cs:=[.rp [.rp R 0] 0,.rp [i64 fr] 0,.rp [B'] 0]) (rest:=[.dead]) h7 h12 rfl hI (by omega)
 have hld:=yU
 have hsn:yF [] true []++[ba.dead]=yF [] true [.dead]:=rfl
 suffices key:Mc [.rp R 0,B,i64 fr]=(some (AV.uq 1 ev.isEmpty 5 (Bm k ev),yF (Bm k ev) ev.isEmpty ([.dead]++eN k ev))).bind fun r=>dc r.2 deep r.1 by
  rw[key]
  cases he:ev with
  |nil=>exact⟨.ma,rfl,.inl ⟨rfl,rfl⟩⟩
  |cons e r=>exact⟨_,rfl,.inr rfl⟩
 simp -implicitDefEqProofs only[Mc,SX,sevalprocAttr,ch,h98',hev,hsn,hgh,hrg,hld,Tr.aa]
theorem sF {T B:PV} {ss:List Lb} {l:List (List ze)} {bs:List Int} (hT:Bo T ss l) (Ba:Tb ss) (ho:∀ e∈l,Ej e) (hB:Wi B bs) (hw:bs.length≤1000000000000) (fr:Nat):
 ∃ V,Mc [T,B,i64 fr]=some V∧Vi 5 V (Bm fr (Gy ss l (bs.drop fr))):=by
 obtain⟨B',hcl,hB',hby,h1⟩:=gN hB hw
 have hc1:B.cells=[B]:=by rcases hB.is with⟨h,_⟩ | h <;> rw[h] <;> rfl
 have hb1:(AV.pv B).one=true:=by rcases hB.is with⟨h,_⟩ | h <;> rw[h] <;> rfl
 have hc2:B'.cells=[B']:=by rcases hB'.is with⟨h,_⟩ | h <;> rw[h] <;> rfl
 have hrows:=mP hT Ba ho hB.HC (by unfold maxLen;omega) ((bs.map u8).length+1) fr (by rw[List.length_map];omega)
 obtain⟨R,rfl⟩:∃ R,T= .rp R 0:=by
  obtain⟨S',NX,DG,RW,h,_⟩:=hT.ex
  exact⟨_,h⟩
 have hlen:(Gy ss l (bs.drop fr)).length≤(bs.drop fr).length:=wK ss l _
 rw[List.length_drop] at hlen
 refine cQ hcl hc1 hb1 hc2 h1 ?_ (by omega)
 rw[Bf,if_neg (by omega),hby,Option.bind_some,if_pos (by rw[List.length_map];omega),Int.toNat_natCast]
 exact hrows
end Go.AM.B1
namespace Go.AM.B1
open Go.AM Go.AM.So
theorem HY {bs:List Int} (h:∀ b∈bs,0≤b∧b≤255):∃ w:List Nat,bs=Zn w∧Bytes w:=by
 refine⟨bs.map Int.toNat,?_,?_⟩
 ·rw[Zn,List.map_map]
  conv=>lhs;rw[← List.map_id bs]
  apply List.map_congr_left
  intro b hb
  show b=((b.toNat:Nat):Int)
  have:=h b hb;omega
 ·intro x hx
  obtain⟨b,hb,rfl⟩:=List.mem_map.1 hx
  have:=h b hb;omega
theorem Wi.take {B:PV} {bs:List Int} (h:Wi B bs) {n:Nat} (hn:n≤bs.length):∃ B',(∀ H,ye H 1 (.pv B) none (some (n:Int))=some (.pv B'))∧Wi B' (bs.take n)∧(AV.pv B').one=true:=by
 rcases h.is with⟨rfl,hb⟩ | rfl
 ·have:bs=[]:=by simpa using hb
  subst this
  have:n=0:=by simpa using hn
  subst this
  exact⟨.ma,fun H=>rfl,⟨.inl ⟨rfl,rfl⟩,by simp⟩,rfl⟩
 ·refine⟨.lit 1 ((bs.take n).map (PV.int .u8)),fun H=> ?_,⟨.inr rfl,fun b hb=>h.HC b (List.mem_of_mem_take hb)⟩,rfl⟩
  simp only[ye,Option.getD_some,Option.getD_none]
  rw[if_pos ⟨by omega,trivial,by omega,by omega,by simp;omega⟩]
  simp[List.map_take]
end Go.AM.B1
namespace Go.AM.B1
open Go.AM Go.AM.So
end Go.AM.B1
namespace Go.AM.B1
open Go.AM Go.AM.So
theorem yX {ss:List Lb} (Ba:Tb ss) (hinj:Vk ss) {i j:Nat} (hi:i < ss.length) (hj:j < ss.length) {w:List Nat} (hw:Bytes w) (h1:Full ss[i] w) (h2:Full ss[j] w):i=j:=by
 have key:∀ i j (hi:i < ss.length) (hj:j < ss.length),i < j→Full ss[i] w→Full ss[j] w→False:=by
  intro i j hi hj hlt h1 h2
  have e:ss[i].parts.length=ss[j].parts.length:=by rw[← h1.2,←h2.2]
  have:=hinj i j hi hj hlt e
  rw[NK (Ba.Xo _ (List.getElem_mem hi)) (Ba.Xo _ (List.getElem_mem hj)) (by omega) hw h1 h2.1] at this
  cases this
 rcases Nat.lt_trichotomy i j with h | h | h
 ·exact (key i j hi hj h h1 h2).elim
 ·exact h
 ·exact (key j i hj hi h h2 h1).elim
theorem aP {b:List Int}:∀ {ss:List Lb} {i:Nat} (hi:i < ss.length) {k:Int},Lf ss[i] b=some k→(∀ j (hj:j < ss.length),(Lf ss[j] b).isSome→j=i)→Lx b ss=some (ss[i].first+k)
 |s::ss,0,_,k,hk,_=>by
  have hk:Lf s b=some k:=hk
  rw[Lx,hk];rfl
 |s::ss,i+1,hi,k,hk,h=>by
  have hn:Lf s b=none:=by
   cases hr:Lf s b with
   |none=>rfl
   |some x=>have:=h 0 (by simp) (by show (Lf s b).isSome=true;rw[hr];rfl);omega
  rw[Lx,hn]
  exact aP (ss:=ss) (i:=i) (by simpa using hi) hk fun j hj hs=>by have:=h (j+1) (by simpa using hj) hs;omega
theorem XB:∀ (ls:List (List (Int×Int))) (bs:List Int) (n r:Int),(∀ l∈ls,Xc l)→bs.length=ls.length→fh ls bs n=some r→Vd ls (r - n)=bs
 | [],bs,n,r,_,hl,h=>by
   cases bs with
   |nil=>rfl
   |cons=>cases hl
 |l::ls,[],n,r,_,hl,_=>by cases hl
 |l::ls,x::bs,n,r,hp,hl,h=>by
  have hpl:=hp l (by simp)
  have hpr:=fun y (hy:y∈ls)=>hp y (by simp[hy])
  rw[fh] at h
  split at h
  ·next hc=>
   have hb:=Oo (x:=x) (n:=0) hpl.2 hc
   have hp1:=sf hpr
   obtain⟨b1,b2⟩:=Xp ls bs _ _ hpr h
   have ih:=XB ls bs _ r hpr (by simpa using hl) h
   obtain⟨d,hd⟩:∃ d,d=(xf x 0 l).1:=⟨_,rfl⟩
   rw[← hd] at hb b1 b2 ih h
   have hm0:0≤d * Ha ls:=Int.mul_nonneg hb.1 (by omega)
   have e1:(r - n).tdiv (Ha ls)=d:=by
    rw[Int.tdiv_eq_ediv_of_nonneg (by omega)]
    have:r - n=(r - (n+d * Ha ls))+d * Ha ls:=by omega
    rw[this,Int.add_mul_ediv_right _ _ (by omega),Int.ediv_eq_zero_of_lt (by omega) (by omega),Int.zero_add]
   have e2:(r - n).tmod (Ha ls)=r - (n+d * Ha ls):=by
    rw[Int.tmod_eq_emod_of_nonneg (by omega)]
    have:r - n=(r - (n+d * Ha ls))+d * Ha ls:=by omega
    rw[this,Int.add_mul_emod_self_right,Int.emod_eq_of_lt (by omega) (by omega)]
   rw[Vd,e1,e2,ih]
   congr 1
   obtain⟨y,q1,_,_,_,q5⟩:=On hpl.2 (k:=d) hb.1 (by omega)
   rw[q1,Option.getD_some]
   obtain⟨k1,g1,g2⟩:=bn (n:=0) hpl.2 hc
   obtain⟨k2,g3,g4⟩:=bn (n:=0) (x:=y) hpl.2 (by rw[q5])
   rw[q5] at g4
   simp only at g4
   have:k1=k2:=by omega
   subst this
   rw[g1] at g3
   exact (Option.some.inj g3).symm
  ·cases h
theorem PL {s:Lb} (h:Dd s) {b:List Int} {k:Int} (hk:Lf s b=some k):has s (s.first+k)∧Vd s.parts k=b:=by
 unfold Lf at hk
 split at hk
 ·next hl=>
  obtain⟨h1,h2⟩:=Xp _ _ _ _ h.parts hk
  have:=XB _ _ _ _ h.parts hl hk
  rw[Int.sub_zero] at this
  exact⟨⟨by omega,by omega⟩,this⟩
 ·cases hk
theorem UG {ss:List Lb} (Ba:Tb ss) (hinj:Vk ss) {w:List Nat} (hw:Bytes w) {i:Nat} (hi:i < ss.length) (h:(Lf ss[i] (Zn w)).isSome) (j:Nat) (hj:j < ss.length) (h2:(Lf ss[j] (Zn w)).isSome):j=i:=
 yX Ba hinj hj hi hw ((Xq (Ba.Xo _ (List.getElem_mem hj)) w).1 h2) ((Xq (Ba.Xo _ (List.getElem_mem hi)) w).1 h)
theorem uW {ss:List Lb} (Ba:Tb ss) (hinj:Vk ss) {w:List Nat} (hw:Bytes w) {s:Lb} (hs:s∈ss) (hf:Full s w):∃ v,Lx (Zn w) ss=some v∧BB v ss=some (Zn w):=by
 obtain⟨i,hi,rfl⟩:=List.getElem_of_mem hs
 have hsome:=(Xq (Ba.Xo _ hs) w).2 hf
 obtain⟨k,hk⟩:=Option.isSome_iff_exists.1 hsome
 obtain⟨h1,h2⟩:=PL (Ba.Xo _ hs) hk
 refine⟨ss[i].first+k,aP hi hk (UG Ba hinj hw hi hsome),?_⟩
 rw[zU Ba hi h1,show ss[i].first+k - ss[i].first=k by omega,h2]
theorem oP {ss:List Lb} {s:Lb} (hs:s∈ss):s.parts.length≤Xe ss:=by
 have key:∀ (ss:List Lb) (m:Nat),m≤ss.foldl (fun m s=>if s.parts.length > m then s.parts.length else m) m∧∀ s∈ss,s.parts.length≤ss.foldl (fun m s=>if s.parts.length > m then s.parts.length else m) m:=by
  intro ss
  induction ss with
  |nil=>intro m;exact⟨Nat.le_refl _,by simp⟩
  |cons a ss ih=>
   intro m
   rw[List.foldl_cons]
   obtain⟨x,hx,hm,ha⟩:∃ x,x=(if a.parts.length > m then a.parts.length else m)∧m≤x∧a.parts.length≤x:=⟨_,rfl,by split <;> omega,by split <;> omega⟩
   rw[← hx]
   obtain⟨h1,h2⟩:=ih x
   refine⟨by omega,fun s hs=> ?_⟩
   rcases List.mem_cons.1 hs with rfl | hs
   ·omega
   ·exact h2 s hs
 exact (key ss 0).2 s hs
theorem QS (x:ByteArray):(x.data.toList==x.data.toList)=true:=by simp
end Go.AM.B1
namespace Go.AM.B1
open Go.AM Go.AM.So
theorem DI {ss:List Lb} (h:∀ s∈ss,∀ l∈s.parts,l.length≤1000) (h2:∀ s∈ss,s.parts.length≤1000) (h3:ss.length≤1000):eb (.lit 2 (ss.map Oe)) ss (ss.map Oe):=by
 refine⟨.inr rfl,by rw[List.length_map],fun k e s he hs=> ?_,by unfold maxLen;omega⟩
 rw[List.getElem?_map,hs] at he
 injection he with he
 have hm:=List.mem_of_getElem? hs
 refine⟨_,_,he.symm,.inr rfl,by rw[List.length_map],fun j v l hv hl=> ?_,by have:=h2 s hm;unfold maxLen;omega⟩
 rw[List.getElem?_map,hl] at hv
 injection hv with hv
 have:=h s hm l (List.mem_of_getElem? hl)
 exact⟨.inr hv.symm,by omega⟩
theorem QK {ss:List Lb} {l:List (List ze)} {a b c d:Int} (hh:eb (.lit 2 (ss.map Oe)) ss (ss.map Oe)) (hv:Ie [.agg [.lit 2 (ss.map Oe)]]=some (.bool true)) (hp:Se [.agg [.lit 2 (ss.map Oe)]]=some (.mc [.agg [.bool true,i64 a,i64 b],i64 0]))
 (hi:Ug [.agg [.lit 2 (ss.map Oe)]]=some (.mc [.agg [.bool true,i64 c,i64 d],i64 0])) (ha:sg ss=some l):
 Tb ss∧∃ T,Hb [.agg [.lit 2 (ss.map Oe)]]=some (.mc [T,i64 0])∧Bo T ss l∧∀ e∈l,Ej e:=by
 obtain⟨x,h1,h2⟩:=Nh hh
 rw[hv] at h1
 injection h1 with h1
 injection h1 with h1
 have Ba:=h2.1 h1.symm
 obtain⟨y,a',b',h3,h4⟩:=(gD hh).2 Ba
 rw[hp] at h3
 injection h3 with h3
 injection h3 with h3
 injection h3 with h3 _
 injection h3 with h3
 injection h3 with h3 _
 injection h3 with h3
 have hpre:=h4.1 h3.symm
 obtain⟨T,t1,t2⟩:=RC hh Ba hpre ha hi
 exact⟨Ba,T,t1,t2,iE Ba hpre ha⟩
end Go.AM.B1
namespace Go.AM.B1
open Go.AM Go.AM.So
theorem YX.of {T:PV} {ss:List Lb} {l:List (List ze)} (hT:Bo T ss l) (Ba:Tb ss):YX T fun u=>BB u ss:=by
 refine⟨fun u=>YS hT Ba u,fun u b h=> ?_,?_⟩
 ·obtain⟨s,hs,h1,h2,rfl,_⟩:=GD Ba.Xo h
  have hk:=Ba.Xo s hs
  have:=(mw s.parts (u - s.first) 0 hk.parts (by omega) (by omega)).2.1
  have:=hk.hi
  omega
 ·obtain⟨S',NX,DG,RW,h,_⟩:=hT.ex
  exact⟨_,h⟩
section
variable {H:List ba} {T:PV} {cd:Int→Option (List Int)} {call:Wa}
end
def Rx:List Lb:=[⟨[[(0,127)]],0⟩,⟨[[(194,223)],[(128,191)]],128⟩,⟨[[(225,225)],[(128,191)],[(128,191)]],4096⟩]
theorem oJ:Ie [.agg [.lit 2 (Rx.map Oe)]]=some (.bool true):=by kernel_rfl
theorem iI:Se [.agg [.lit 2 (Rx.map Oe)]]=some (.mc [.agg [.bool true,i64 0,i64 0],i64 0]):=by kernel_rfl
theorem YI:Ug [.agg [.lit 2 (Rx.map Oe)]]=some (.mc [.agg [.bool true,i64 0,i64 0],i64 0]):=by kernel_rfl
theorem SL:(sg Rx).isSome=true:=by kernel_rfl
end Go.AM.B1
namespace Go.AM.B1
open Go.AM Go.AM.So
def Has (E:Tr):List (Nat×AV)→Prop
 | []=>True
 | (k,v)::l=>E.get k=v∧Has E l
theorem Has.mem {E:Tr} {p:Nat×AV}:∀ {l:List (Nat×AV)},Has E l→p∈l→E.get p.1=p.2
 |q::l,h,hm=>by
  rcases List.mem_cons.1 hm with rfl | hm
  ·exact h.1
  ·exact Has.mem h.2 hm
theorem Has.move {E E':Tr}:∀ {l:List (Nat×AV)},Has E l→(∀ t∈l.map (·.1),E'.get t=E.get t)→Has E' l
 | [],_,_=>trivial
 |q::l,h,hk=>⟨(hk _ (by simp)).trans h.1,Has.move h.2 fun t ht=>hk t (by simp at ht ⊢;exact .inr ht)⟩
def iW (n:Nat):ba→Bool
 | .box cells=>cells.all (AV.Je n deep)
 | .seq _ _ cells _ _=>cells.all (AV.Je n deep)
 |_=>true
theorem mV {n:Nat} {o:ba} (h:iW n o=true):na n o=some o:=by
 cases o with
 |box cells=>simp only[iW] at h;simp only[na,uH h];rfl
 |seq sz ag cells fl nl=>simp only[iW] at h;simp only[na,h];rfl
 |tok=>rfl
 |map=>rfl
 |dead=>rfl
theorem LW {n d:Nat} (p:PV):AV.Je n d (.pv p)=true:=by cases d <;> rfl
theorem wT {n:Nat} {H:List ba} (h:H.all (iW n)=true):∀ o∈H,na n o=some o:=fun o ho=>mV (List.all_eq_true.1 h o ho)
def RH {σ:Type} (L:σ→List (Nat×AV)) (Hp:σ→List ba) (P:σ→Prop) (Q:Ex×St→Prop):Ex×St→Prop
 | (.norm,s)=>∃ x T,Has s.env (L x)∧s.H=Hp x++T∧P x
 |r=>Q r
section
variable {σ:Type} {call:Wa} {b:Pa} {live:List Nat} {Q:Ex×St→Prop} {E0:Tr} {H0:List ba}
 (L:σ→List (Nat×AV)) (Hp:σ→List ba) (hk:∀ x,(L x).map (·.1)=live)
theorem dZ {n:Nat} {P:σ→Prop} {s:St} (hk:∀ x,(L x).map (·.1)=live) (hc:∀ x,P x→(L x).all (fun p=>AV.Je n deep p.2)=true∧(∀ o∈Hp x,na n o=some o)∧(Hp x).length=n) (h:∃ x T,Has s.env (L x)∧s.H=Hp x++T∧P x):
 Tg n live (fun t=>∃ x,Has t.env (L x)∧t.H=Hp x∧P x) s:=by
 obtain⟨x,T,h1,h2,h3⟩:=h
 obtain⟨c1,c2,c3⟩:=hc x h3
 refine⟨Hp x,T,h2,c3,c2,fun t ht=> ?_,fun E' hE=>⟨x,h1.move fun t ht=>hE t (by rw[← hk x];exact ht),rfl,h3⟩⟩
 rw[← hk x] at ht
 obtain⟨p,hp,rfl⟩:=List.mem_map.1 ht
 rw[h1.mem hp]
 exact qL _ (List.all_eq_true.1 c1 p hp)
theorem lU (P:Nat→σ→Prop) (N:Nat) (hN:N < qa) (hk:∀ x,(L x).map (·.1)=live)
 (hc:∀ i x,P i x→(L x).all (fun p=>AV.Je H0.length deep p.2)=true∧(∀ o∈Hp x,na H0.length o=some o)∧(Hp x).length=H0.length)
 (h0:∃ x,Has E0 (L x)∧H0=Hp x∧P 0 x)
 (hs:∀ i x E,i < N→P i x→Has E (L x)→Gd (RH L Hp (P (i+1)) Q) (ua call b ⟨E,Hp x⟩))
 (he:∀ x E,P N x→Has E (L x)→Gd (fun r=>r.1.stop=true∧Q r) (ua call b ⟨E,Hp x⟩)):
 Gd (fun r=>r.1.stop=true∧Q r) (ua call (.loop live b) ⟨E0,H0⟩):=by
 obtain⟨x0,a1,a2,a3⟩:=h0
 refine Qn (fun i t=>∃ x,Has t.env (L x)∧t.H=Hp x∧P i x) N hN (dZ L Hp hk (hc 0) ⟨x0,[],a1,by rw[List.append_nil];exact a2,a3⟩) ?_ ?_
 ·rintro i ⟨E,H⟩ hi ⟨x,h1,h2,h3⟩
  simp only at h2;subst h2
  refine za (hs i x E hi h3 h1) ?_
  rintro⟨ex,s⟩ hr
  cases ex with
  |norm=>exact dZ L Hp hk (hc (i+1)) hr
  |exit=>exact hr
  |ret=>exact hr
 ·rintro⟨E,H⟩ ⟨x,h1,h2,h3⟩
  simp only at h2;subst h2
  exact he x E h3 h1
end
end Go.AM.B1
