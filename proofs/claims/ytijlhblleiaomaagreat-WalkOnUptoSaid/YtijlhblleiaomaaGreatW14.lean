/- What functions of the program compute. -/
import Derived.Test.YtijlhblleiaomaaGreatW12
import Derived.Test.YtijlhblleiaomaaGreatW13
import Derived.Test.YtijlhblleiaomaaGreatW4
import Derived.Test.YtijlhblleiaomaaGreatW3
import Derived.Test.YtijlhblleiaomaaGreatW7
import Derived.Test.YtijlhblleiaomaaGreatW8
import Derived.Test.YtijlhblleiaomaaGreatW11
set_option linter.unusedVariables false
set_option linter.unusedSimpArgs false
namespace Go.AM.B1
open Go.AM Go.AM.So
structure FG where
 kind:Int
 size:Nat
 u:Int
theorem Tz (l:List (List xe)):∀ (bs:List Int) (i:Nat) (st:Int),∃ k:Nat,i≤k∧k≤i+bs.length∧((Hh l i st bs=((k:Int),1)∧i < k)∨(Hh l i st bs=((k:Int),2)∧k=i+bs.length)∨(Hh l i st bs=((k:Int),3)∧k < i+bs.length))
 | [],i,st=>⟨i,Nat.le_refl _,by simp,.inr (.inl ⟨rfl,by simp⟩)⟩
 |b::r,i,st=>by
  rw[Hh]
  by_cases h1:(Yk l st b).2=false
  ·rw[if_pos h1];exact⟨i,Nat.le_refl _,by simp,.inr (.inr ⟨rfl,by simp⟩)⟩
  ·rw[if_neg h1]
   by_cases h2:(Yk l st b).1= -1
   ·rw[if_pos h2];exact⟨i+1,by omega,by simp,.inl ⟨rfl,by omega⟩⟩
   ·rw[if_neg h2]
    obtain⟨k,k1,k2,k3⟩:=Tz l r (i+1) (Yk l st b).1
    refine⟨k,by omega,by simp;omega,?_⟩
    rcases k3 with⟨a,b⟩ | ⟨a,b⟩ | ⟨a,b⟩
    ·exact .inl ⟨a,by omega⟩
    ·exact .inr (.inl ⟨a,by simp;omega⟩)
    ·exact .inr (.inr ⟨a,by simp;omega⟩)
section
variable (ss:List Rb) (l:List (List xe))
def gH (bs:List Int):FG:=
 if (Hh l 0 0 bs).2=1 then ⟨1,(Hh l 0 0 bs).1.toNat,(DE (bs.take (Hh l 0 0 bs).1.toNat) ss).getD 0⟩
 else if (Hh l 0 0 bs).2=2 then ⟨3,(Hh l 0 0 bs).1.toNat,0⟩ else ⟨2,max (Hh l 0 0 bs).1.toNat 1,0⟩
theorem Zy {bs:List Int} (h:bs≠[]):1≤(gH ss l bs).size∧(gH ss l bs).size≤bs.length:=by
 have hl:0 < bs.length:=List.length_pos_iff.2 h
 obtain⟨k,k1,k2,k3⟩:=Tz l bs 0 0
 unfold gH
 rcases k3 with⟨a,b⟩ | ⟨a,b⟩ | ⟨a,b⟩ <;> rw[a] <;> simp <;> omega
def mD:Nat→List Int→List FG
 |0,_=>[]
 |n+1,bs=>if bs=[] then [] else gH ss l bs::mD n (bs.drop (gH ss l bs).size)
theorem AF:∀ {n m:Nat} {bs:List Int},bs.length≤n→bs.length≤m→mD ss l n bs=mD ss l m bs
 |0,m,bs,h1,h2=>by
  have:bs=[]:=List.eq_nil_of_length_eq_zero (by omega)
  subst this
  cases m <;> simp[mD]
 |n+1,0,bs,h1,h2=>by
  have:bs=[]:=List.eq_nil_of_length_eq_zero (by omega)
  subst this
  simp[mD]
 |n+1,m+1,bs,h1,h2=>by
  rw[mD,mD]
  by_cases h:bs=[]
  ·rw[if_pos h,if_pos h]
  ·rw[if_neg h,if_neg h]
   have:=Zy ss l h
   rw[AF (n:=n) (m:=m) (by rw[List.length_drop];omega) (by rw[List.length_drop];omega)]
def Ly (bs:List Int):List FG:=mD ss l bs.length bs
theorem TI:Ly ss l []=[]:=rfl
theorem Cs {bs:List Int} (h:bs≠[]):Ly ss l bs=gH ss l bs::Ly ss l (bs.drop (gH ss l bs).size):=by
 have hl:0 < bs.length:=List.length_pos_iff.2 h
 have hs:=Zy ss l h
 obtain⟨n,hn⟩:∃ n,bs.length=n+1:=⟨bs.length - 1,by omega⟩
 unfold Ly
 conv=>lhs;rw[hn]
 rw[mD,if_neg h,AF ss l (n:=n) (m:=(bs.drop (gH ss l bs).size).length) (by rw[List.length_drop];omega) (Nat.le_refl _)]
end
end Go.AM.B1
namespace Go.AM.B1
open Go.AM Go.AM.So
def Ro (e:FG) (at_:Int):PV:= .agg [i64 e.kind,i64 at_,i64 e.size,i64 e.u,i64 0]
theorem zR (H:List ba) (es:List PV) (k:Nat) (hk:k≤es.length):Ye H 1 (.pv (.lit 1 es)) none (some (k:Int))=some (.pv (.lit 1 (es.take k))):=by
 simp only[Ye,Option.getD_some,Option.getD_none]
 rw[if_pos ⟨by decide,trivial,by omega,by omega,by omega⟩]
 simp
theorem AP {T:PV} {ss:List Rb} {l:List (List xe)} {bs:List Int} (hT:Sn T ss l) (Ba:qc ss) (ho:∀ e∈l,ij e) (hb:∀ b∈bs,0≤b∧b≤255) (hw:bs.length≤maxLen):
 Mf [T,.lit 1 (bs.map u8)]=some (Ro (gH ss l bs) 0):=by
 have hB:Yi (.lit 1 (bs.map u8)) bs:=⟨.inr rfl,hb⟩
 have hm:=dM hT ho hB hw
 obtain⟨k,_,k2,k3⟩:=Tz l bs 0 0
 rw[Nat.zero_add] at k2
 have hsl:=fun H=>zR H (bs.map u8) k (by simpa using k2)
 have hB2:Yi (.lit 1 ((bs.map u8).take k)) (bs.take k):=⟨.inr (by rw[List.map_take]),fun b h=>hb b (List.mem_of_mem_take h)⟩
 have hd:=TR hT Ba hB2
 obtain⟨R,rfl⟩:∃ R,T= .rp R 0:=by
  obtain⟨S',NX,DG,RW,h,_⟩:=hT.ex
  exact⟨_,h⟩
 rcases k3 with⟨a,b⟩ | ⟨a,b⟩ | ⟨a,b⟩ <;> rw[a] at hm <;> dsimp only at hm
 ·have he:gH ss l bs=⟨1,k,(DE (bs.take k) ss).getD 0⟩:=by simp[gH,a]
  have e1:((1:Int)==1)=true:=rfl
  rw[he]
  cases hv:DE (bs.take k) ss with
  |none=>
   rw[hv] at hd
   dsimp only at hd
   simp -implicitDefEqProofs only[Mf,SX,sevalprocAttr,Vk,hm,hsl,hd,e1]
   rfl
  |some v=>
   rw[hv] at hd
   dsimp only at hd
   simp -implicitDefEqProofs only[Mf,SX,sevalprocAttr,Vk,hm,hsl,hd,e1]
   rfl
 ·have he:gH ss l bs=⟨3,k,0⟩:=by simp[gH,a]
  have e1:((2:Int)==1)=false:=rfl
  have e2:((2:Int)==2)=true:=rfl
  rw[he]
  simp -implicitDefEqProofs only[Mf,SX,sevalprocAttr,Vk,hm,e1,e2]
  rfl
 ·have he:gH ss l bs=⟨2,max k 1,0⟩:=by simp[gH,a]
  have e1:((3:Int)==1)=false:=rfl
  have e2:((3:Int)==2)=false:=rfl
  have hmx:Vp true [AV.pv (.int .i64 (k:Int)),AV.pv (.int .i64 1)]=some (i64 ((max k 1:Nat):Int)):=by
   have:((max k 1:Nat):Int)=max (k:Int) 1:=by omega
   rw[this]
   show some (PV.int .i64 (if (1:Int) > (k:Int) then 1 else (k:Int)))=some (.int .i64 (max (k:Int) 1))
   rw[show (if (1:Int) > (k:Int) then 1 else (k:Int))=max (k:Int) 1 from by split <;> omega]
  rw[he]
  simp -implicitDefEqProofs only[Mf,SX,sevalprocAttr,Vk,hm,e1,e2,hmx,List.map]
  rfl
end Go.AM.B1
namespace Go.AM.B1
open Go.AM Go.AM.So
def OX (T R:PV) (un tot out:Int) (st fin:Bool):ba:= .box ([T,i64 un,R,i64 tot,i64 out,.bool st,.bool fin].map .pv)
structure LW (T:PV) (cd:Int→Option (List Int)):Prop where
 enc:∀ u,wi [T,i64 u]=some (match cd u with | some b=> .uc [.lit 1 (b.map u8),.bool true] | none=> .uc [.ma,.bool false])
 len:∀ u b,cd u=some b→b.length≤8
 ptr:∃ R,T= .rp R 0
structure OO (U:AV) (us:List Int) (n0:Nat):Prop where
 len:∀ H,Sb H 0 U=some us.length
 zY:∀ H (i:Nat) (h:i < us.length),wa H 1 U i=some (.pv (.rp [i64 us[i]] 0))
 cut:∀ n,n0≤n→AV.cut n deep U=some U
theorem WC {A:List ba} {id n sz bytes:Nat} {nl nl' ag:Bool} {h:rf} {es ys:List PV} (hg:A[id]? =some (.tok sz n nl')) (hn:n=es.length) (hr:mb (es.length+ys.length) bytes):
 Ub A false h sz ag bytes (.uq id nl sz es) (.pv (.lit sz ys))=some (.uq id (nl&&ys.isEmpty) sz (es++ys),A.set id (.tok sz (es.length+ys.length) (nl&&ys.isEmpty))):=by
 subst hn
 simp only[Ub,Bool.false_eq_true,if_false,hg,yf,if_true,Option.bind_some]
 rw[if_pos ⟨trivial,trivial,trivial,hr⟩]
section
variable {A:List ba} {c:Nat}
end
end Go.AM.B1
namespace Go.AM.B1
open Go.AM Go.AM.So
def pE (es:List PV) (nl:Bool) (rest:List ba):List ba:= .box [.uq 1 nl 5 es]:: .tok 5 es.length nl::rest
theorem kS (es:List PV) (nl:Bool) (rest:List ba):ya (pE es nl rest) false 1 (.ptr 0 0)=some (.uq 1 nl 5 es):=rfl
def Mw (e:FG) (a:Int):ba:= .box [.pv (i64 e.kind),.pv (i64 a),.pv (i64 e.size),.pv (i64 e.u),.pv (i64 0)]
theorem PO (H:List ba) (e:FG) (a:Int):Ma (H++[.box [.pv (i64 0),.pv (i64 0),.pv (i64 0),.pv (i64 0),.pv (i64 0)]]) 5 (.ptr H.length 0) (.pv (Ro e a))=some (H++[Mw e a]):=by
 have h1:(H++[ba.box [.pv (i64 0),.pv (i64 0),.pv (i64 0),.pv (i64 0),.pv (i64 0)]])[H.length]? =some (.box [.pv (i64 0),.pv (i64 0),.pv (i64 0),.pv (i64 0),.pv (i64 0)]):=by simp
 unfold Ma
 rw[if_pos ⟨rfl,rfl⟩]
 simp only[h1]
 rw[if_pos (by decide)]
 congr 1
 simp[Mw,na,Ro,AV.cells,PV.cells,List.map]
theorem SR (H:List ba) (e:FG) (a:Int):ya (H++[Mw e a]) true 5 (.ptr H.length 0)=some (.pv (Ro e a)):=by
 have h1:(H++[Mw e a])[H.length]? =some (Mw e a):=by simp
 unfold ya
 simp only[h1]
 rfl
theorem EH {call:Ua} {E:Tr} (h7:E.get 7= .ptr 0 0) (es:List PV) (nl:Bool) (rest:List ba) (e:FG) (a:Int) (hr:mb (es.length+1) 40):
 ∃ E',Dk (pa call jd) (vd call [Co 8 (.alloc [(.int .i64 0),(.int .i64 0),(.int .i64 0),(.int .i64 0),(.int .i64 0)]),jS 5 8 13] ⟨E.set 13 (.pv (Ro e a)),pE es nl rest⟩)=some (.norm,⟨E',pE (es++[Ro e a]) false (rest++[Mw e a])⟩):=by
 have st:=PO (pE es nl rest) e a
 have ld:=SR (pE es nl rest) e a
 have l0:ya (pE es nl rest++[Mw e a]) false 1 (.ptr 0 0)=some (.uq 1 nl 5 es):=rfl
 have ap:Ub (pE es nl rest++[Mw e a]) false .uq 5 true 40 (.uq 1 nl 5 es) (.pv (.lit 5 [Ro e a]))=some (.uq 1 false 5 (es++[Ro e a]),.box [.uq 1 nl 5 es]:: .tok 5 (es++[Ro e a]).length false::(rest++[Mw e a])):=by
  rw[WC (n:=es.length) (nl':=nl) (id:=1) rfl rfl (by simpa using hr)]
  simp[pE]
 have s7:Ma (.box [.uq 1 nl 5 es]:: .tok 5 (es++[Ro e a]).length false::(rest++[Mw e a])) 1 (.ptr 0 0) (.uq 1 false 5 (es++[Ro e a]))=some (pE (es++[Ro e a]) false (rest++[Mw e a])):=rfl
 have bsl:∀ H:List ba,((if (List.map AV.pv (Ro e a).cells).length=5∧(List.map AV.pv (Ro e a).cells).all AV.one=true then some (na [AV.pv (PV.int IntKind.i64 0),AV.pv (PV.int IntKind.i64 0),AV.pv (PV.int IntKind.i64 0),AV.pv (PV.int IntKind.i64 0),AV.pv (PV.int IntKind.i64 0)] 0 (List.map AV.pv (Ro e a).cells)) else none).bind fun cs=>
  if cs.all AV.one=true then Option.map (fun ps=>(AV.pv (PV.lit 5 [PV.agg (List.take 5 ps)]),H)) (de cs) else none)=some (.pv (.lit 5 [Ro e a]),H):=fun H=>rfl
 generalize pE es nl rest=H0 at *
 generalize pE (es++[Ro e a]) false (rest++[Mw e a])=H3 at *
 generalize H0++[Mw e a]=H1 at *
 generalize Ro e a=ev at *
 simp -implicitDefEqProofs only[SX,sevalprocAttr,jd,st,ld,l0,ap,s7,h7,bsl]
 exact⟨_,rfl⟩
end Go.AM.B1
namespace Go.AM.B1
open Go.AM Go.AM.So
theorem fK (ss:List Rb) (l:List (List xe)):∀ (bs:List Int),(Ly ss l bs).length≤bs.length:=by
 have key:∀ (n:Nat) (bs:List Int),(mD ss l n bs).length≤bs.length:=by
  intro n
  induction n with
  |zero=>intro bs;exact Nat.zero_le _
  |succ n ih=>
   intro bs
   rw[mD]
   split
   ·exact Nat.zero_le _
   ·next h=>
    have h1:=Zy ss l h
    have h2:=ih (bs.drop (gH ss l bs).size)
    rw[List.length_drop] at h2
    rw[List.length_cons]
    omega
 exact fun bs=>key _ bs
theorem DC {B:PV} {bs:List Int} (hB:Yi B bs) (hw:bs.length≤1000000000000):∃ B',Ij [B]=some B'∧Yi B' bs∧rC B'=some (bs.map u8)∧(AV.pv B').one=true:=by
 rcases hB.is with⟨h,hn⟩ | h
 ·subst h
  have:bs=[]:=by simpa using hn
  subst this
  exact⟨.ma,by kernel_rfl,hB,rfl,rfl⟩
 ·subst h
  refine⟨.lit 1 (bs.map u8),?_,hB,rfl,rfl⟩
  have e0:∀ H,su H 2 (.pv (.lit 1 (bs.map u8))) (.pv .ma)=some false:=fun H=>rfl
  have ap:Ub [.tok 1 0 false] false .uq 1 false 1 (.uq 0 false 1 []) (.pv (.lit 1 (bs.map u8)))=some (.uq 0 false 1 (bs.map u8),[.tok 1 bs.length false]):=by
   rw[WC (n:=0) (nl':=false) rfl rfl (by unfold mb;simp;omega)]
   simp
  have hfr:∀ H,fresh H .uq 1 false 0 []=some (.uq H.length false 1 [],H++[.tok 1 0 false]):=fun H=>rfl
  simp -implicitDefEqProofs only[Ij,SX,sevalprocAttr,ur,e0,ap,hfr]
def Rj:Nat→List FG→List PV
 |_,[]=>[]
 |k,e::r=>Ro e k::Rj (k+e.size) r
theorem sI:∀ (k:Nat) (l:List FG),(Rj k l).length=l.length
 |_,[]=>rfl
 |k,e::r=>by rw[Rj,List.length_cons,List.length_cons,sI]
theorem yN {T:PV} {ss:List Rb} {l:List (List xe)} {bs:List Int} (hT:Sn T ss l) (Ba:qc ss) (ho:∀ e∈l,ij e) (hb:∀ b∈bs,0≤b∧b≤255) (hw:bs.length≤maxLen):
 ∀ (n k:Nat),bs.length - k < n→bu T (bs.map u8) n k=some ((Rj k (Ly ss l (bs.drop k))).map ([·]))
 |0,k,h=>by omega
 |n+1,k,h=>by
  rw[bu]
  by_cases hk:bs.length≤k
  ·rw[if_pos (by simpa using hk),List.drop_eq_nil_of_le hk];rfl
  ·rw[if_neg (by simpa using hk)]
   have hne:bs.drop k≠[]:=fun e=>by have:=List.length_drop (i:=k) (l:=bs);rw[e] at this;simp at this;omega
   have hr:=AP hT Ba ho (bs:=bs.drop k) (fun b hb'=>hb b (List.mem_of_mem_drop hb')) (by rw[List.length_drop];omega)
   have hs:=Zy ss l hne
   rw[List.length_drop] at hs
   rw[← List.map_drop,hr,Option.bind_some,Cs ss l hne,List.drop_drop]
   generalize gH ss l (bs.drop k)=e at *
   show (if (1:Int)≤(e.size:Int)∧(e.size:Int)+k≤(bs.map u8).length then _ else _)=_
   rw[if_pos ⟨by omega,by rw[List.length_map];omega⟩,Int.toNat_natCast,yN hT Ba ho hb hw n (k+e.size) (by omega)]
   rfl
theorem cS:∀ (k:Nat) (l:List FG),((Rj k l).map ([·])).all (bN 1)=true
 |_,[]=>rfl
 |k,e::r=>by
  rw[Rj,List.map_cons,List.all_cons,cS]
  rfl
def rM:Nat→List FG→List ba
 |_,[]=>[]
 |k,e::r=>Mw e k::rM (k+e.size) r
theorem eG {call:Ua} {E:Tr} (h7:E.get 7= .ptr 0 0):∀ (ev:List FG) (k:Nat) (es:List PV) (nl:Bool) (rest:List ba),mb (es.length+ev.length) 40→
 ai (fun x H=>(fun e H=>Dk (pa call jd) (vd call [Co 8 (.alloc [(.int .i64 0),(.int .i64 0),(.int .i64 0),(.int .i64 0),(.int .i64 0)]),jS 5 8 13] ⟨e,H⟩)) (tB [] (Mo [13] x E)) H) ((Rj k ev).map ([·])) (pE es nl rest)=some (.norm,pE (es++Rj k ev) (nl&&ev.isEmpty) (rest++rM k ev))
 | [],k,es,nl,rest,hr=>by simp[Rj,rM,ai]
 |e::ev,k,es,nl,rest,hr=>by
  obtain⟨E',h1⟩:=EH (call:=call) h7 es nl rest e k (by unfold mb at *;simp at hr;omega)
  have h2:=eG (call:=call) h7 ev (k+e.size) (es++[Ro e k]) false (rest++[Mw e k]) (by unfold mb at *;simp at hr ⊢;omega)
  rw[Rj,List.map_cons,ai]
  have h1':∀ X,X=some (Ex.norm,(⟨E',pE (es++[Ro e k]) false (rest++[Mw e k])⟩:St))→Ky (ai (fun x H=>(fun e H=>Dk (pa call jd) (vd call [Co 8 (.alloc [(.int .i64 0),(.int .i64 0),(.int .i64 0),(.int .i64 0),(.int .i64 0)]),jS 5 8 13] ⟨e,H⟩)) (tB [] (Mo [13] x E)) H) ((Rj (k+e.size) ev).map ([·]))) X=some (.norm,pE (es++Ro e k::Rj (k+e.size) ev) (nl&&(e::ev).isEmpty) (rest++rM k (e::ev))):=by
   rintro X rfl
   refine Eq.trans h2 ?_
   rw[List.append_assoc,List.append_assoc]
   simp[rM]
  exact h1' _ h1
theorem UG {call:Ua} {E:Tr} {caps:List AV} {cs:List PV} {ev:List FG} {k:Nat} {rest:List ba} (h7:E.get 7= .ptr 0 0) (h12:E.get 12= .pk 99 caps) (hc:de caps=some cs) (hF:Ke cs=some ((Rj k ev).map ([·]))) (hr:ev.length * 40≤140737488355328):
 pa call (.au 99 Ke (.t 12) [13] [Co 8 (.alloc [(.int .i64 0),(.int .i64 0),(.int .i64 0),(.int .i64 0),(.int .i64 0)]),jS 5 8 13] jd) ⟨E,pE [] true rest⟩=some (.norm,⟨E,pE (Rj k ev) ev.isEmpty (rest++rM k ev)⟩):=by
 rw[vR]
 have hv:xo 99 Ke [13].length ((AO.t 12).ev E)=some ((Rj k ev).map ([·])):=by
  show xo 99 Ke 1 (E.get 12)=_
  rw[h12]
  simp only[xo,if_true,hc,Option.bind_some,hF]
  rw[if_pos (cS k ev)]
 rw[hv]
 have h:=eG (call:=call) h7 ev k [] true rest (by unfold mb;simpa using hr)
 show NP E (ai _ _ _)=_
 rw[List.nil_append,Bool.true_and] at h
 exact (congrArg (NP E) h).trans rfl
theorem QK (H:List ba) (v:AV) (h:v.one=true):ya (H++[.box [v]]) false 1 (.ptr H.length 0)=some v:=by
 have h1:(H++[ba.box [v]])[H.length]? =some (.box [v]):=by simp
 unfold ya
 simp only[h1]
 cases v <;> first | rfl | (simp[AV.one] at h;done) | skip
theorem eK (H:List ba) (v:AV) (p:PV) (h:(AV.pv p).one=true) (hc:(AV.pv p).cells=[.pv p]):Ma (H++[.box [v]]) 1 (.ptr H.length 0) (.pv p)=some (H++[.box [.pv p]]):=by
 have h1:(H++[ba.box [v]])[H.length]? =some (.box [v]):=by simp
 unfold Ma
 rw[hc,if_pos ⟨rfl,by simp[h]⟩]
 simp only[h1]
 rw[if_pos (by simp)]
 simp[na]
theorem PJ {call:Ua} {T B B':PV} {fr:Int} {H:List ba} (hT:(AV.pv T).one=true) (hB:(AV.pv B).one=true) (hB':(AV.pv B').one=true) (hTc:T.cells=[T]) (hBc:B.cells=[B]) (hc:B'.cells=[B']) (hcl:Ij [B]=some B'):
 Ei call ll [.pv T,.pv B,.pv (i64 fr)] H=some (.pk 99 [.pv (.rp [T] 0),.pv (.rp [i64 fr] 0),.pv (.rp [B'] 0)],H++[.dead]):=by
 have ld:=QK H (.pv B) hB
 have st:=eK H (.pv B) B' hB' (by simp[AV.cells,hc])
 have h1:(H++[ba.box [.pv B']])[H.length]? =some (.box [.pv B']):=by simp
 have h2:(H++[ba.box [.pv B']]).set H.length .dead=H++[.dead]:=by simp
 simp -implicitDefEqProofs only[SX,sevalprocAttr,ll,hT,hB,hB',hTc,hBc,hc,ld,st,hcl,Ee,h1,h2,Qf,List.map,List.all,List.length]
theorem NF {R:List PV} {B B':PV} {fr:Int} {ev:List FG} {k:Nat} (hcl:Ij [B]=some B') (hc1:B.cells=[B]) (hb1:(AV.pv B).one=true) (hc2:B'.cells=[B']) (h1:(AV.pv B').one=true)
 (hI:Ke [.rp [.rp R 0] 0,.rp [i64 fr] 0,.rp [B'] 0]=some ((Rj k ev).map ([·]))) (hlen:ev.length≤1000000000000):∃ V,pb [.rp R 0,B,i64 fr]=some V∧ri 5 V (Rj k ev):=by
 have hev:=PJ (call:=Ea we 7) (T:= .rp R 0) (fr:=fr) (H:=pE [] true []) rfl hb1 h1 rfl hc1 hc2 hcl
 have h98':we 98=some ll:=rfl
 have hgh:∀ E:Tr,E.get 7= .ptr 0 0→Ee (.Kr 7 0 5) ⟨E,[.box [.pv .ma]]⟩=some ⟨E,pE [] true []⟩:=fun E h=>by
  simp only[Ee,h]
  rfl
 have hrg:=fun E h7 h12=>UG (call:=Ea we 8) (E:=E) (caps:=[.pv (.rp [.rp R 0] 0),.pv (.rp [i64 fr] 0),.pv (.rp [B'] 0)]) (cs:=[.rp [.rp R 0] 0,.rp [i64 fr] 0,.rp [B'] 0]) (rest:=[.dead]) h7 h12 rfl hI (by omega)
 have hld:=kS
 have hsn:pE [] true []++[ba.dead]=pE [] true [.dead]:=rfl
 suffices key:pb [.rp R 0,B,i64 fr]=(some (AV.uq 1 ev.isEmpty 5 (Rj k ev),pE (Rj k ev) ev.isEmpty ([.dead]++rM k ev))).bind fun r=>Xb r.2 deep r.1 by
  rw[key]
  cases he:ev with
  |nil=>exact⟨.ma,rfl,.inl ⟨rfl,rfl⟩⟩
  |cons e r=>exact⟨_,rfl,.inr rfl⟩
 simp -implicitDefEqProofs only[pb,SX,sevalprocAttr,Og,h98',hev,hsn,hgh,hrg,hld,Tr.aa]
theorem Lt {T B:PV} {ss:List Rb} {l:List (List xe)} {bs:List Int} (hT:Sn T ss l) (Ba:qc ss) (ho:∀ e∈l,ij e) (hB:Yi B bs) (hw:bs.length≤1000000000000) (fr:Nat):
 ∃ V,pb [T,B,i64 fr]=some V∧ri 5 V (Rj fr (Ly ss l (bs.drop fr))):=by
 obtain⟨B',hcl,hB',hby,h1⟩:=DC hB hw
 have hc1:B.cells=[B]:=by rcases hB.is with⟨h,_⟩ | h <;> rw[h] <;> rfl
 have hb1:(AV.pv B).one=true:=by rcases hB.is with⟨h,_⟩ | h <;> rw[h] <;> rfl
 have hc2:B'.cells=[B']:=by rcases hB'.is with⟨h,_⟩ | h <;> rw[h] <;> rfl
 have hrows:=yN hT Ba ho hB.nE (by unfold maxLen;omega) ((bs.map u8).length+1) fr (by rw[List.length_map];omega)
 obtain⟨R,rfl⟩:∃ R,T= .rp R 0:=by
  obtain⟨S',NX,DG,RW,h,_⟩:=hT.ex
  exact⟨_,h⟩
 have hlen:(Ly ss l (bs.drop fr)).length≤(bs.drop fr).length:=fK ss l _
 rw[List.length_drop] at hlen
 refine NF hcl hc1 hb1 hc2 h1 ?_ (by omega)
 rw[Ke,if_neg (by omega),hby,Option.bind_some,if_pos (by rw[List.length_map];omega),Int.toNat_natCast]
 exact hrows
theorem JK {R:List PV} {B:PV} {bs:List Int} (hB:Yi B bs) (hw:bs.length≤1000000000000) {fr:Int} (h:fr < 0):pb [.rp R 0,B,i64 fr]=some .ma∨pb [.rp R 0,B,i64 fr]=some (.lit 5 []):=by
 obtain⟨B',hcl,hB',hby,h1⟩:=DC hB hw
 have hc1:B.cells=[B]:=by rcases hB.is with⟨h,_⟩ | h <;> rw[h] <;> rfl
 have hb1:(AV.pv B).one=true:=by rcases hB.is with⟨h,_⟩ | h <;> rw[h] <;> rfl
 have hc2:B'.cells=[B']:=by rcases hB'.is with⟨h,_⟩ | h <;> rw[h] <;> rfl
 obtain⟨V,h2,h3⟩:=NF (R:=R) (fr:=fr) (ev:=[]) (k:=0) hcl hc1 hb1 hc2 h1 (by rw[Ke,if_pos h];rfl) (by simp)
 rcases h3 with⟨rfl,_⟩ | rfl
 ·exact .inl h2
 ·exact .inr h2
end Go.AM.B1
namespace Go.AM.B1
open Go.AM Go.AM.So
theorem Yi.take {B:PV} {bs:List Int} (h:Yi B bs) {n:Nat} (hn:n≤bs.length):∃ B',(∀ H,Ye H 1 (.pv B) none (some (n:Int))=some (.pv B'))∧Yi B' (bs.take n)∧(AV.pv B').one=true:=by
 rcases h.is with⟨rfl,hb⟩ | rfl
 ·have:bs=[]:=by simpa using hb
  subst this
  have:n=0:=by simpa using hn
  subst this
  exact⟨.ma,fun H=>rfl,⟨.inl ⟨rfl,rfl⟩,by simp⟩,rfl⟩
 ·refine⟨.lit 1 ((bs.take n).map (PV.int .u8)),fun H=> ?_,⟨.inr rfl,fun b hb=>h.nE b (List.mem_of_mem_take hb)⟩,rfl⟩
  simp only[Ye,Option.getD_some,Option.getD_none]
  rw[if_pos ⟨by omega,trivial,by omega,by omega,by simp;omega⟩]
  simp[List.map_take]
end Go.AM.B1
namespace Go.AM.B1
open Go.AM Go.AM.So
end Go.AM.B1
namespace Go.AM.B1
open Go.AM Go.AM.So
end Go.AM.B1
namespace Go.AM.B1
open Go.AM Go.AM.So
theorem zG {ss:List Rb} (h:∀ s∈ss,∀ l∈s.parts,l.length≤1000) (h2:∀ s∈ss,s.parts.length≤1000) (h3:ss.length≤1000):wb (.lit 2 (ss.map Fe)) ss (ss.map Fe):=by
 refine⟨.inr rfl,by rw[List.length_map],fun k e s he hs=> ?_,by unfold maxLen;omega⟩
 rw[List.getElem?_map,hs] at he
 injection he with he
 have hm:=List.mem_of_getElem? hs
 refine⟨_,_,he.symm,.inr rfl,by rw[List.length_map],fun j v l hv hl=> ?_,by have:=h2 s hm;unfold maxLen;omega⟩
 rw[List.getElem?_map,hl] at hv
 injection hv with hv
 have:=h s hm l (List.mem_of_getElem? hl)
 exact⟨.inr hv.symm,by omega⟩
theorem DI {ss:List Rb} {l:List (List xe)} {a b c d:Int} (hh:wb (.lit 2 (ss.map Fe)) ss (ss.map Fe)) (hv:Nf [.agg [.lit 2 (ss.map Fe)]]=some (.bool true)) (hp:ye [.agg [.lit 2 (ss.map Fe)]]=some (.uc [.agg [.bool true,i64 a,i64 b],i64 0]))
 (hi:Ng [.agg [.lit 2 (ss.map Fe)]]=some (.uc [.agg [.bool true,i64 c,i64 d],i64 0])) (ha:yg ss=some l):
 qc ss∧∃ T,Fb [.agg [.lit 2 (ss.map Fe)]]=some (.uc [T,i64 0])∧Sn T ss l∧∀ e∈l,ij e:=by
 obtain⟨x,h1,h2⟩:=Mk hh
 rw[hv] at h1
 injection h1 with h1
 injection h1 with h1
 have Ba:=h2.1 h1.symm
 obtain⟨y,a',b',h3,h4⟩:=(sD hh).2 Ba
 rw[hp] at h3
 injection h3 with h3
 injection h3 with h3
 injection h3 with h3 _
 injection h3 with h3
 injection h3 with h3 _
 injection h3 with h3
 have hpre:=h4.1 h3.symm
 obtain⟨T,t1,t2⟩:=JC hh Ba hpre ha hi
 exact⟨Ba,T,t1,t2,kC Ba hpre ha⟩
end Go.AM.B1
namespace Go.AM.B1
open Go.AM Go.AM.So
theorem LW.of {T:PV} {ss:List Rb} {l:List (List xe)} (hT:Sn T ss l) (Ba:qc ss):LW T fun u=>lU u ss:=by
 refine⟨fun u=>nS hT Ba u,fun u b h=> ?_,?_⟩
 ·obtain⟨s,hs,h1,h2,rfl,_⟩:=XI Ba.Av h
  have hk:=Ba.Av s hs
  have:=(jv s.parts (u - s.first) 0 hk.parts (by omega) (by omega)).2.1
  have:=hk.hi
  omega
 ·obtain⟨S',NX,DG,RW,h,_⟩:=hT.ex
  exact⟨_,h⟩
section
variable {H:List ba} {T:PV} {cd:Int→Option (List Int)} {call:Ua}
end
def Qw:List Rb:=[⟨[[(0,127)]],0⟩,⟨[[(194,223)],[(128,191)]],128⟩,⟨[[(225,225)],[(128,191)],[(128,191)]],4096⟩]
theorem EJ:Nf [.agg [.lit 2 (Qw.map Fe)]]=some (.bool true):=by kernel_rfl
theorem LH:ye [.agg [.lit 2 (Qw.map Fe)]]=some (.uc [.agg [.bool true,i64 0,i64 0],i64 0]):=by kernel_rfl
theorem pH:Ng [.agg [.lit 2 (Qw.map Fe)]]=some (.uc [.agg [.bool true,i64 0,i64 0],i64 0]):=by kernel_rfl
theorem VL:(yg Qw).isSome=true:=by kernel_rfl
end Go.AM.B1
namespace Go.AM.B1
open Go.AM Go.AM.So
def Has (E:Tr):List (Nat×AV)→Prop
 | []=>True
 | (k,v)::l=>E.get k=v∧Has E l
theorem Has.mem {E:Tr} {p:Nat×AV}:∀ {l:List (Nat×AV)},Has E l→p∈l→E.get p.1=p.2
 |q::l,h,hm=>by
  rcases List.mem_cons.1 hm with rfl | hm
  ·exact h.1
  ·exact Has.mem h.2 hm
theorem Has.move {E E':Tr}:∀ {l:List (Nat×AV)},Has E l→(∀ t∈l.map (·.1),E'.get t=E.get t)→Has E' l
 | [],_,_=>trivial
 |q::l,h,hk=>⟨(hk _ (by simp)).trans h.1,Has.move h.2 fun t ht=>hk t (by simp at ht ⊢;exact .inr ht)⟩
def qV (n:Nat):ba→Bool
 | .box cells=>cells.all (AV.ze n deep)
 | .seq _ _ cells _ _=>cells.all (AV.ze n deep)
 |_=>true
theorem cR {n:Nat} {o:ba} (h:qV n o=true):oa n o=some o:=by
 cases o with
 |box cells=>simp only[qV] at h;simp only[oa,pF h];rfl
 |seq sz ag cells fl nl=>simp only[qV] at h;simp only[oa,h];rfl
 |tok=>rfl
 |map=>rfl
 |dead=>rfl
theorem WN {n d:Nat} (p:PV):AV.ze n d (.pv p)=true:=by cases d <;> rfl
theorem VJ {n:Nat} {H:List ba} (h:H.all (qV n)=true):∀ o∈H,oa n o=some o:=fun o ho=>cR (List.all_eq_true.1 h o ho)
def RH {σ:Type} (L:σ→List (Nat×AV)) (Hp:σ→List ba) (P:σ→Prop) (Q:Ex×St→Prop):Ex×St→Prop
 | (.norm,s)=>∃ x T,Has s.env (L x)∧s.H=Hp x++T∧P x
 |r=>Q r
section
variable {σ:Type} {call:Ua} {b:Pa} {live:List Nat} {Q:Ex×St→Prop} {E0:Tr} {H0:List ba}
 (L:σ→List (Nat×AV)) (Hp:σ→List ba) (hk:∀ x,(L x).map (·.1)=live)
theorem DX {n:Nat} {P:σ→Prop} {s:St} (hk:∀ x,(L x).map (·.1)=live) (hc:∀ x,P x→(L x).all (fun p=>AV.ze n deep p.2)=true∧(∀ o∈Hp x,oa n o=some o)∧(Hp x).length=n) (h:∃ x T,Has s.env (L x)∧s.H=Hp x++T∧P x):
 Ig n live (fun t=>∃ x,Has t.env (L x)∧t.H=Hp x∧P x) s:=by
 obtain⟨x,T,h1,h2,h3⟩:=h
 obtain⟨c1,c2,c3⟩:=hc x h3
 refine⟨Hp x,T,h2,c3,c2,fun t ht=> ?_,fun E' hE=>⟨x,h1.move fun t ht=>hE t (by rw[← hk x];exact ht),rfl,h3⟩⟩
 rw[← hk x] at ht
 obtain⟨p,hp,rfl⟩:=List.mem_map.1 ht
 rw[h1.mem hp]
 exact CJ _ (List.all_eq_true.1 c1 p hp)
theorem wJ (P:Nat→σ→Prop) (N:Nat) (hN:N < qa) (hk:∀ x,(L x).map (·.1)=live)
 (hc:∀ i x,P i x→(L x).all (fun p=>AV.ze H0.length deep p.2)=true∧(∀ o∈Hp x,oa H0.length o=some o)∧(Hp x).length=H0.length)
 (h0:∃ x,Has E0 (L x)∧H0=Hp x∧P 0 x)
 (hs:∀ i x E,i < N→P i x→Has E (L x)→Ld (RH L Hp (P (i+1)) Q) (pa call b ⟨E,Hp x⟩))
 (he:∀ x E,P N x→Has E (L x)→Ld (fun r=>r.1.stop=true∧Q r) (pa call b ⟨E,Hp x⟩)):
 Ld (fun r=>r.1.stop=true∧Q r) (pa call (.loop live b) ⟨E0,H0⟩):=by
 obtain⟨x0,a1,a2,a3⟩:=h0
 refine pn (fun i t=>∃ x,Has t.env (L x)∧t.H=Hp x∧P i x) N hN (DX L Hp hk (hc 0) ⟨x0,[],a1,by rw[List.append_nil];exact a2,a3⟩) ?_ ?_
 ·rintro i ⟨E,H⟩ hi ⟨x,h1,h2,h3⟩
  simp only at h2;subst h2
  refine za (hs i x E hi h3 h1) ?_
  rintro⟨ex,s⟩ hr
  cases ex with
  |norm=>exact DX L Hp hk (hc (i+1)) hr
  |exit=>exact hr
  |ret=>exact hr
 ·rintro⟨E,H⟩ ⟨x,h1,h2,h3⟩
  simp only at h2;subst h2
  exact he x E h3 h1
end
end Go.AM.B1
