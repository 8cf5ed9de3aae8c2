/- What functions of the program compute. -/
import Derived.Test.YtijlhblleiaomaaGreatL7
import Derived.Test.YtijlhblleiaomaaGreatL2
import Derived.Test.YtijlhblleiaomaaGreatL4
import Derived.Test.YtijlhblleiaomaaGreatL5
import Derived.Test.YtijlhblleiaomaaGreatL6
set_option linter.unusedVariables false
set_option linter.unusedSimpArgs false
namespace Go.AM.B1
open Go.AM Go.AM.So
theorem T3{call:Sa}(k:Nat)(s:St):oa call (.goto k) s=some (.goto k,s):=rfl
theorem sZ{call:Sa}(k:Nat)(a b:Ja)(s:St):oa call (.jumps k a b) s=Tu k (oa call b) (oa call a s):=rfl
theorem bU(f:St->Option (Ex×St))(n:Nat)(s:St):Qz f (some (.goto n,s))=some (.goto n,s):=rfl
def Xv(A:List ba)(d c:Nat)(o1 o2:ba)(X:List ba)(n:Nat)(nl:Bool)(Y:List ba):List ba:=dm A d c o1 o2 (X++ .tok 5 n nl::Y)
section
variable {A:List ba}{d c:Nat}{o1 o2:ba}{X Y:List ba}{n:Nat}{nl:Bool}
theorem N1:(Xv A d c o1 o2 X n nl Y)[A.length+X.length]? =some (.tok 5 n nl):=by
 unfold Xv;rw[P2,Kaa (paa _),ead];rfl
theorem Z1(m:Nat)(b:Bool):(Xv A d c o1 o2 X n nl Y).set (A.length+X.length) (.tok 5 m b)=Xv A d c o1 o2 X m b Y:=by
 unfold Xv;rw[fN,Jab _ _ (paa _),ead];rfl
theorem uP{es:List PV}(e:PV)(hn:n=es.length)(hl:es.length<=1000000000000):Cb (Xv A d c o1 o2 X n nl Y) false .uq 5 true 40 (.uq (A.length+X.length) nl 5 es) (.pv (.lit 5 [e]))=some (.uq (A.length+X.length) false 5 (es++[e]),Xv A d c o1 o2 X (es++[e]).length false Y):=by
 subst hn;rw[Ih N1 rfl (by unfold eb;omega),Z1,raa];rfl
end
theorem Still.Xv{X Y:List ba}{n:Nat}{nl:Bool}(hX:Still X)(hY:Still Y):Still (X++ .tok 5 n nl::Y):=hX.app ((Still.tok 5 n nl).cons hY)
section
variable {T:PV}{ss:List Ob}{l:List (List ae)}(hT:Ko T ss l)(Ba:Xb ss)(ho:∀ e∈l,Dj e)
variable {call call':Sa}{A:List ba}{d c:Nat}(hA:Wd A)(h2:oZ A d c){bad Jc:Int}{ya fin:Bool}
 (h89:∀ H (k:Int),call 89 [.ptr d 0,.pv (i64 k)] H=ef call' Zb [.ptr d 0,.pv (i64 k)] H)
 (h81:∀ H (x:Int),call 81 [.ptr c 0,.pv (u8 x)] H=ef call' Ae [.ptr c 0,.pv (u8 x)] H)
 {call'':Sa} (h82:∀ H (n:Int),call' 82 [.ptr c 0,.pv (i64 n)] H=ef call'' Nc [.ptr c 0,.pv (i64 n)] H) (h83:∀ H,call' 83 [.ptr c 0] H=ef call'' Cc [.ptr c 0] H)
include hT Ba hA h2 h89 h82 h83
theorem EO{st:Int}{at_:Nat}(u9:at_<=1000000){buf q:List Int}{h:Nat}(hq:xo buf h q){X:List ba}(hX:Still X){n:Nat}{nl:Bool}{Y:List ba}(hY:Still Y){k u:Int}(hu:u=if k=1 then (cv q ss).getD 0 else 0):
 ∃ Y',Still Y'/\call 89 [.ptr d 0,.pv (i64 k)] (Xv A d c (Kc T bad c st at_ Jc ya fin) (Xe buf 8 h q.length) X n nl Y)=some (.pv (Zg ⟨k,q.length,u⟩ at_),Xv A d c (Kc T bad c 0 ((at_+q.length:Nat):Int) Jc ya fin) (Xe buf 8 ((h+q.length) % 8:Nat) ([]:List Int).length) X n nl Y'):=by
 rw[h89];obtain⟨Y',y1,y2⟩:=CO (call:=call') (call':=call'') hA h2 (hX.Xv hY (n:=n) (nl:=nl)) (T:=T) (bad:=bad) (st:=st) (Jc:=Jc) (at_:=at_) (ya:=ya) (fin:=fin) hq h82 h83 u9 (k:=k) (u:=u)
  (fun hk=>by
   have:=rW hT Ba (B:= .lit 1 (q.map u8)) (bs:=q) ⟨.inr rfl,hq.Ty⟩;rw[if_pos hk] at hu;subst hu;cases hc:cv q ss with
   |some v=>exact⟨true,by rw[hc] at this;exact this⟩
   |none=>exact⟨false,by rw[hc] at this;exact this⟩)
  (fun hk=>by rw[kaa hk] at hu;exact hu)
 refine⟨Y++Y',hY.app y1,?_⟩;unfold Xv;rw[y2,Dab,bab];rfl
include h81 ho
def iq(ss:List Ob)(l:List (List ae))(q:List Int)(st x:Int):List Pu×List Int×Int:=
 if (Md l st x).2=true then (if (Md l st x).1= -1 then ([⟨1,q.length+1,(cv (q++[x]) ss).getD 0⟩],[],0) else ([],q++[x],(Md l st x).1)) else ([⟨2,q.length+1,0⟩],[],0)
theorem iT{st:Int}{at_:Nat}(u9:at_<=1000000){buf q:List Int}{h:Nat}(hq:xo buf h q)(hl:q.length < 8){x:Int}(hx:0<=x/\x<=255)(h0:(Md l st x).2=true\/st=0){X:List ba}(hX:Still X){es:List PV}(hes:es.length<=1000000000){nl:Bool}{Y:List ba}(hY:Still Y)
 {E:Tr} (g0:E.get 0= .ptr d 0) (g1:E.get 1= .pv (u8 x)) (g5:E.get 5= .uq (A.length+X.length) nl 5 es) {R:List Pu×List Int×Int} (hR:R=iq ss l q st x):
 qd (fun r=>∃ E' nl' buf' h' Y',r=(.ret,⟨E',Xv A d c (Kc T bad c R.2.2 ((at_+(R.1.map (·.size)).sum:Nat):Int) Jc ya fin) (Xe buf' 8 h' R.2.1.length) X (es++Oc at_ R.1).length nl' Y'⟩)/\
  E'.get 4= .uq (A.length+X.length) nl' 5 (es++Oc at_ R.1)/\xo buf' h' R.2.1/\Still Y'/\(nl'=true->nl=true/\R.1=[])) (oa call Wb ⟨E,Xv A d c (Kc T bad c st at_ Jc ya fin) (Xe buf 8 h q.length) X es.length nl Y⟩):=by
 have Y7:=dK hT ho hx (st:=st);obtain⟨K,hK⟩:∃ K:ba->ba->Nat->Bool->List ba->List ba,K=fun o1 o2 m nl Y=>Xv A d c o1 o2 X m nl Y:=⟨_,rfl⟩;have hK':∀ o1 o2 m nl Y,Xv A d c o1 o2 X m nl Y=K o1 o2 m nl Y:=fun o1 o2 m nl Y=>by rw[hK]
 have gd:∀ o1 o2 m nl Y,(K o1 o2 m nl Y)[d]? =some o1:=fun o1 o2 m nl Y=>by rw[hK];exact dE h2
 have gc:∀ o1 o2 m nl Y,(K o1 o2 m nl Y)[c]? =some o2:=fun o1 o2 m nl Y=>by rw[hK];exact wJ h2
 have sd:∀ o1 o2 m nl Y o,(K o1 o2 m nl Y).set d o=K o o2 m nl Y:=fun o1 o2 m nl Y o=>by rw[hK];exact nH h2
 have sc:∀ o1 o2 m nl Y o,(K o1 o2 m nl Y).set c o=K o1 o m nl Y:=fun o1 o2 m nl Y o=>by rw[hK];exact wO h2
 have pd:∀ st at_ o2 m nl Y k,place (K (Kc T bad c st at_ Jc ya fin) o2 m nl Y) k (.ptr d 0)=some (.ptr d k):=fun st at_ o2 m nl Y k=>NH (gd _ _ _ _ _) k;have ldd:=fun st at_ o2 m nl Y=>GA (gd (Kc T bad c st at_ Jc ya fin) o2 m nl Y);have sst:∀ at_ o2 m nl Y v,Ha (K (Kc T bad c st at_ Jc ya fin) o2 m nl Y) 1 (.ptr d 3) (.pv (i64 v))=some (K (Kc T bad c v at_ Jc ya fin) o2 m nl Y):=fun at_ o2 m nl Y v=>by rw[T2 (gd _ _ _ _ _),sd]
 obtain⟨buf',hq',hpu⟩:=oW (call:=call') hq (gc (Kc T bad c st at_ Jc ya fin) (Xe buf 8 h q.length) es.length nl Y) hl hx;rw[sc,<-h81] at hpu;have ap:∀ o1 o2 Y e,Cb (K o1 o2 es.length nl Y) false .uq 5 true 40 (.uq (A.length+X.length) nl 5 es) (.pv (.lit 5 [e]))=some (.uq (A.length+X.length) false 5 (es++[e]),K o1 o2 (es++[e]).length false Y):=fun o1 o2 Y e=>by rw[hK];exact uP e rfl (by omega)
 have bsl:∀ (e:Pu)(a:Int)(H:List ba),((if (List.map AV.pv (Zg e a).cells).length=5/\(List.map AV.pv (Zg e a).cells).all AV.one=true then some (fa [AV.pv (PV.int IntKind.i64 0),AV.pv (PV.int IntKind.i64 0),AV.pv (PV.int IntKind.i64 0),AV.pv (PV.int IntKind.i64 0),AV.pv (PV.int IntKind.i64 0)] 0 (List.map AV.pv (Zg e a).cells)) else none).bind fun cs=>
  if cs.all AV.one=true then Option.map (fun ps=>(AV.pv (PV.lit 5 [PV.agg (List.take 5 ps)]),H)) (Tc cs) else none)=some (.pv (.lit 5 [Zg e a]),H):=fun e a H=>rfl
 have C8:(q++[x]).length=q.length+1:=by simp
 have hsh:=fun (k u:Int)(hu:u=if k=1 then (cv (q++[x]) ss).getD 0 else 0)=>EO hT Ba hA h2 h89 h82 h83 (bad:=bad) (Jc:=Jc) (ya:=ya) (fin:=fin) (st:=st) u9 hq' hX (n:=es.length) (nl:=nl) hY (k:=k) (u:=u) hu;unfold iq at hR;generalize hs1:(Md l st x).1=s1 at *
 generalize hs2:(Md l st x).2=s2 at *
 simp only[hK'] at hsh ⊢;clear hK hK' sc gc gd h89 h81 h82 h83;cases s2 with
 |true=>
  rw[if_pos rfl] at hR
  by_cases h1:s1= -1
  ·rw[if_pos h1] at hR
   subst hR;have e1:(s1== -1)=true:=by rw[h1];rfl
   obtain⟨Y',y1,y2⟩:=hsh 1 _ rfl;rw[if_pos rfl] at y2;simp only[C8] at y2 hpu;generalize hQ:(fun r:Ex×St=>∃ E' nl' buf' h' Y',r=_/\_)=Q;simp -implicitDefEqProofs only[SX,sevalprocAttr,Wb,g0,g1,g5,pd,ldd,Y7,hpu,e1,y2,bsl,ap];subst hQ;refine⟨_,false,buf',(h+(q.length+1)) % 8,Y',rfl,?_,?_,y1,fun h=>by cases h⟩
   ·simp[Tr.aa,Oc]
   ·have:=(iy (call:=call) hq' (H:=[.box ((Th buf' 8 h (q++[x]).length).map .pv)]) (c:=0) rfl (paa _)).1
    rw[vab,C8] at this;exact this
  ·rw[kaa h1] at hR
   subst hR;have e1:(s1== -1)=false:=beq_false_of_ne h1;generalize hQ:(fun r:Ex×St=>∃ E' nl' buf' h' Y',r=_/\_)=Q;simp -implicitDefEqProofs only[SX,sevalprocAttr,Wb,g0,g1,g5,pd,ldd,Y7,hpu,e1,sst];subst hQ;exact⟨_,nl,buf',h,Y,by rw[show es++Oc at_ []=es from wab es];rfl,by simp[Tr.aa,Oc,g5],hq',hY,fun h=>⟨h,rfl⟩⟩
 |false=>
  rw[kaa (by simp)] at hR;subst hR;have h00:st=0:=h0.resolve_left (by simp)
  subst h00;have z0:((0:Int) != 0)=false:=rfl;obtain⟨Y',y1,y2⟩:=hsh 2 0 rfl;simp only[C8] at y2 hpu;generalize hQ:(fun r:Ex×St=>∃ E' nl' buf' h' Y',r=_/\_)=Q;simp -implicitDefEqProofs only[SX,sevalprocAttr,Wb,g0,g1,g5,pd,ldd,Y7,hpu,z0,y2,bsl,ap];subst hQ;refine⟨_,false,buf',(h+(q.length+1)) % 8,Y',rfl,?_,?_,y1,fun h=>by cases h⟩
  ·simp[Tr.aa,Oc]
  ·have:=(iy (call:=call) hq' (H:=[.box ((Th buf' 8 h (q++[x]).length).map .pv)]) (c:=0) rfl (paa _)).1
   rw[vab,C8] at this;exact this
omit h81 in
theorem sV{st:Int}{at_:Nat}(u9:at_<=1000000){buf q:List Int}{h:Nat}(hq:xo buf h q){x:Int}(hx:0<=x/\x<=255)(h0:(Md l st x).2=false/\st≠0){X:List ba}(hX:Still X){es:List PV}(hes:es.length<=1000000000){nl:Bool}{Y:List ba}(hY:Still Y)
 {E:Tr} (g0:E.get 0= .ptr d 0) (g1:E.get 1= .pv (u8 x)) (g5:E.get 5= .uq (A.length+X.length) nl 5 es):
 qd (fun r=>∃ E' Y' buf' h',r=(if bad=3 then .ret else .goto 0,⟨E',Xv A d c (Kc T bad c 0 ((at_+q.length:Nat):Int) Jc ya fin) (Xe buf' 8 h' ([]:List Int).length) X (es++[Zg ⟨2,q.length,0⟩ at_]).length false Y'⟩)/\
  (bad=3->E'.get 4= .uq (A.length+X.length) false 5 (es++[Zg ⟨2,q.length,0⟩ at_]))/\E'.get 5= .uq (A.length+X.length) false 5 (es++[Zg ⟨2,q.length,0⟩ at_])/\E'.get 0= .ptr d 0/\E'.get 1= .pv (u8 x)/\Still Y'/\xo buf' h' [])
  (oa call Wb ⟨E,Xv A d c (Kc T bad c st at_ Jc ya fin) (Xe buf 8 h q.length) X es.length nl Y⟩):=by
 have Y7:=dK hT ho hx (st:=st);obtain⟨K,hK⟩:∃ K:ba->ba->Nat->Bool->List ba->List ba,K=fun o1 o2 m nl Y=>Xv A d c o1 o2 X m nl Y:=⟨_,rfl⟩;have hK':∀ o1 o2 m nl Y,Xv A d c o1 o2 X m nl Y=K o1 o2 m nl Y:=fun o1 o2 m nl Y=>by rw[hK]
 have gd:∀ o1 o2 m nl Y,(K o1 o2 m nl Y)[d]? =some o1:=fun o1 o2 m nl Y=>by rw[hK];exact dE h2
 have pd:∀ st at_ o2 m nl Y k,place (K (Kc T bad c st at_ Jc ya fin) o2 m nl Y) k (.ptr d 0)=some (.ptr d k):=fun st at_ o2 m nl Y k=>NH (gd _ _ _ _ _) k;have ldd:=fun st at_ o2 m nl Y=>GA (gd (Kc T bad c st at_ Jc ya fin) o2 m nl Y);have ap:∀ o1 o2 Y e,Cb (K o1 o2 es.length nl Y) false .uq 5 true 40 (.uq (A.length+X.length) nl 5 es) (.pv (.lit 5 [e]))=some (.uq (A.length+X.length) false 5 (es++[e]),K o1 o2 (es++[e]).length false Y):=fun o1 o2 Y e=>by rw[hK];exact uP e rfl (by omega)
 have bsl:∀ (e:Pu)(a:Int)(H:List ba),((if (List.map AV.pv (Zg e a).cells).length=5/\(List.map AV.pv (Zg e a).cells).all AV.one=true then some (fa [AV.pv (PV.int IntKind.i64 0),AV.pv (PV.int IntKind.i64 0),AV.pv (PV.int IntKind.i64 0),AV.pv (PV.int IntKind.i64 0),AV.pv (PV.int IntKind.i64 0)] 0 (List.map AV.pv (Zg e a).cells)) else none).bind fun cs=>
  if cs.all AV.one=true then Option.map (fun ps=>(AV.pv (PV.lit 5 [PV.agg (List.take 5 ps)]),H)) (Tc cs) else none)=some (.pv (.lit 5 [Zg e a]),H):=fun e a H=>rfl
 obtain⟨Y',y1,y2⟩:=EO hT Ba hA h2 h89 h82 h83 (bad:=bad) (Jc:=Jc) (ya:=ya) (fin:=fin) (st:=st) u9 hq hX (n:=es.length) (nl:=nl) hY (k:=2) (u:=0) rfl;have hqn:=(iy (call:=call) hq (H:=[.box ((Th buf 8 h q.length).map .pv)]) (c:=0) rfl (paa _)).1
 rw[vab] at hqn;rw[h0.1] at Y7;generalize hs1:(Md l st x).1=s1 at *
 simp only[hK'] at y2 ⊢;clear hK hK' gd h89 h82 h83;have z0:(st != 0)=true:=by simp[h0.2]
 by_cases h3:bad=3
 ·have e3:(bad==3)=true:=by rw[h3];rfl
  rw[if_pos h3];generalize hQ:(fun r:Ex×St=>∃ E' Y' buf' h',r=_/\_)=Q;simp -implicitDefEqProofs only[SX,sevalprocAttr,Wb,g0,g1,g5,pd,ldd,Y7,z0,y2,bsl,ap,e3];subst hQ;exact⟨_,Y',buf,_,rfl,fun _=>by simp[Tr.aa],by simp[Tr.aa],by simp[Tr.aa,g0],by simp[Tr.aa,g1],y1,hqn⟩
 ·have e3:(bad==3)=false:=beq_false_of_ne h3
  rw[kaa h3];generalize hQ:(fun r:Ex×St=>∃ E' Y' buf' h',r=_/\_)=Q;simp -implicitDefEqProofs only[SX,sevalprocAttr,Wb,g0,g1,g5,pd,ldd,Y7,z0,y2,bsl,ap,e3,T3,bU];subst hQ;exact⟨_,Y',buf,_,rfl,fun h=>absurd h h3,by simp[Tr.aa],by simp[Tr.aa,g0],by simp[Tr.aa,g1],y1,hqn⟩
end
def Tq(T:PV)(bad:Int)(C:PV)(st at_ Jc:Int)(ya fin:Bool):List PV:=[T,i64 bad,C,i64 st,i64 at_,i64 Jc,.bool ya,.bool fin]
theorem sB{H:List ba}{d c:Nat}{T:PV}{bad st at_ Jc:Int}{ya fin:Bool}{buf:List Int}{r h n:Int}(hd:H[d]? =some (Kc T bad c st at_ Jc ya fin))(hc:H[c]? =some (Xe buf r h n)):
 Tb H 6 (.ptr d 0)=some (.rp (Tq T bad (.rp (Th buf r h n) 0) st at_ Jc ya fin) 0):=by
 have h1:=eL hc 4;rw[Tb];simp only[hd,Kc,CM,Ra,FB,h1,yaa,Haa];rfl
section
variable (T:PV)(bad:Int)(C:PV)(st at_ Jc:Int)(ya fin:Bool)(H:List ba)
theorem eB:pa H false 1 (.pv (.rp (Tq T bad C st at_ Jc ya fin) 0))=some (.pv T)/\pa H false 1 (.pv (.rp (Tq T bad C st at_ Jc ya fin) 1))=some (.pv (i64 bad))/\pa H false 1 (.pv (.rp (Tq T bad C st at_ Jc ya fin) 2))=some (.pv C)/\
 pa H false 1 (.pv (.rp (Tq T bad C st at_ Jc ya fin) 5))=some (.pv (i64 Jc))/\pa H false 1 (.pv (.rp (Tq T bad C st at_ Jc ya fin) 6))=some (.pv (.bool ya))/\pa H false 1 (.pv (.rp (Tq T bad C st at_ Jc ya fin) 7))=some (.pv (.bool fin)):=⟨rfl,rfl,rfl,rfl,rfl,rfl⟩
end
section
variable {T:PV}{bad:Int}{C:PV}{st at_ Jc:Int}{ya fin:Bool}
theorem BH:we [.rp (Tq T bad C st at_ Jc ya fin) 0]=some (i64 (if fin then 181 else if ya then 182 else 0)):=by
 have ld:=eB T bad C st at_ Jc ya fin;have pl:=yy (Tq T bad C st at_ Jc ya fin);generalize Tq T bad C st at_ Jc ya fin=row at *;have e1:∀ H,Kq H 1 (.pv (.rp row 0)) (.pv .sf)=some false:=fun H=>rfl;cases fin with
 |true=>simp -implicitDefEqProofs only[we,SX,sevalprocAttr,Gg,e1,pl,ld,if_true]
 |false=>
  cases ya with
  |true=>simp -implicitDefEqProofs only[we,SX,sevalprocAttr,Gg,e1,pl,ld,if_true,saa,if_false]
  |false=>simp -implicitDefEqProofs only[we,SX,sevalprocAttr,Gg,e1,pl,ld,saa,if_false]
theorem NQ:qk [.rp (Tq T bad C st at_ Jc ya fin) 0]=some (i64 Jc):=by
 have ld:=eB T bad C st at_ Jc ya fin;have pl:=yy (Tq T bad C st at_ Jc ya fin);generalize Tq T bad C st at_ Jc ya fin=row at *;have e1:∀ H,Kq H 1 (.pv (.rp row 0)) (.pv .sf)=some false:=fun H=>rfl;simp -implicitDefEqProofs only[qk,SX,sevalprocAttr,Jn,e1,pl,ld]
theorem lK:Kj [.rp (Tq T bad C st at_ Jc ya fin) 0]=some (.bool ya):=by
 have ld:=eB T bad C st at_ Jc ya fin;have pl:=yy (Tq T bad C st at_ Jc ya fin);generalize Tq T bad C st at_ Jc ya fin=row at *;have e1:∀ H,Kq H 1 (.pv (.rp row 0)) (.pv .sf)=some false:=fun H=>rfl;simp -implicitDefEqProofs only[Kj,SX,sevalprocAttr,Lm,e1,pl,ld]
theorem bJ{buf q:List Int}{h:Nat}{r:Int}(hq:xo buf h q):Yb [.rp (Tq T bad (.rp (Th buf r h q.length) 0) st at_ Jc ya fin) 0]=some (i64 q.length):=by
 have hl:=xw (r:=r) hq;have ld:=eB T bad (.rp (Th buf r h q.length) 0) st at_ Jc ya fin;have pl:=yy (Tq T bad (.rp (Th buf r h q.length) 0) st at_ Jc ya fin);generalize Tq T bad (.rp (Th buf r h q.length) 0) st at_ Jc ya fin=row at *;have e1:∀ H,Kq H 1 (.pv (.rp row 0)) (.pv .sf)=some false:=fun H=>rfl;simp -implicitDefEqProofs only[Yb,SX,sevalprocAttr,ql,e1,pl,ld,hl]
theorem gO{buf q:List Int}{h:Nat}{r:Int}(hq:xo buf h q):yk [.rp (Th buf r h q.length) 0]=some (i64 r):=by
 obtain⟨c8,c9,c10⟩:=xG hq.len (r:=r) (h:=h) (n:=q.length)
 generalize Th buf r h q.length=row at *
 have e1:∀ H,Kq H 1 (.pv (.rp row 0)) (.pv .sf)=some false:=fun H=>rfl;have pl:=yy row;have ld:=fun H=>gK c8 H;simp -implicitDefEqProofs only[yk,SX,sevalprocAttr,Xm,e1,pl,ld]
theorem MU{buf q:List Int}{h:Nat}{r:Int}(hq:xo buf h q):Uf [.rp (Tq T bad (.rp (Th buf r h q.length) 0) st at_ Jc ya fin) 0]=some (i64 r):=by
 have hl:=gO (r:=r) hq;have ld:=eB T bad (.rp (Th buf r h q.length) 0) st at_ Jc ya fin;have pl:=yy (Tq T bad (.rp (Th buf r h q.length) 0) st at_ Jc ya fin);generalize Tq T bad (.rp (Th buf r h q.length) 0) st at_ Jc ya fin=row at *;have e1:∀ H,Kq H 1 (.pv (.rp row 0)) (.pv .sf)=some false:=fun H=>rfl;simp -implicitDefEqProofs only[Uf,SX,sevalprocAttr,Xk,e1,pl,ld,hl]
end
section
variable {S:PV}{ss:List Ob}{es:List PV}(hS:pb S ss es)(Ba:Xb ss)
include hS Ba
end
open Go.AM
theorem lk.take{B:PV}{bs:List Int}(h:lk B bs){n:Nat}(hn:n<=bs.length):∃ B',(∀ H,ug H 1 (.pv B) none (some (n:Int))=some (.pv B'))/\lk B' (bs.take n)/\(AV.pv B').one=true:=by
 rcases h.is with⟨rfl,hb⟩ | rfl
 ·have:bs=[]:=by simpa using hb
  subst this;have:n=0:=by simpa using hn
  subst this;exact⟨.ga,fun H=>rfl,⟨.inl ⟨rfl,rfl⟩,by simp⟩,rfl⟩
 ·refine⟨.lit 1 ((bs.take n).map (PV.int .u8)),fun H=> ?_,⟨.inr rfl,fun b hb=>h.Ty b (uac hb)⟩,rfl⟩
  simp only[ug,Tac,Option.getD_none];rw[if_pos ⟨by omega,trivial,by omega,by omega,by simp;omega⟩];simp[List.map_take]
theorem yR{ss:List Ob}(Ba:Xb ss)(hinj:Fm ss){i j:Nat}(hi:i < ss.length)(hj:j < ss.length){w:List Nat}(hw:Bytes w)(h1:Full ss[i] w)(h2:Full ss[j] w):i=j:=by
 have key:∀ i j (hi:i < ss.length) (hj:j < ss.length),i < j->Full ss[i] w->Full ss[j] w->False:=by
  intro i j hi hj E7 h1 h2;have e:ss[i].parts.length=ss[j].parts.length:=by rw[<- h1.2,<-h2.2]
  have:=hinj i j hi hj E7 e;rw[kO (Ba.ct _ (jaa hi)) (Ba.ct _ (jaa hj)) (by omega) hw h1 h2.1] at this;cases this
 rcases Nat.lt_trichotomy i j with h | h | h
 ·exact (key i j hi hj h h1 h2).elim
 ·exact h
 ·exact (key j i hj hi h h2 h1).elim
theorem ZR{b:List Int}:∀ {ss:List Ob}{i:Nat}(hi:i < ss.length){k:Int},Ti ss[i] b=some k->(∀ j (hj:j < ss.length),(Ti ss[j] b).isSome->j=i)->cv b ss=some (ss[i].first+k)
 |s::ss,0,_,k,hk,_=>by have hk:Ti s b=some k:=hk;rw[cv,hk];rfl
 |s::ss,i+1,hi,k,hk,h=>by
  have hn:Ti s b=none:=by
   cases hr:Ti s b with
   |none=>rfl
   |some x=>have:=h 0 (by simp) (by show (Ti s b).isSome=true;rw[hr];rfl);omega
  rw[cv,hn];exact ZR (ss:=ss) (i:=i) (by simpa using hi) hk fun j hj hs=>by have:=h (j+1) (by simpa using hj) hs;omega
def TF:List (List (Int×Int))->List Int->Int->Option Int
 |l::r,x::b,k=>if (Ld x 0 l).2=true then TF r b (k * ib 0 l+(Ld x 0 l).1) else none
 |_,_,k=>some k
theorem fF:∀ (ls:List (List (Int×Int)))(bs:List Int)(k:Int),bs.length=ls.length->TF ls bs k=Eh ls bs (k * Na ls)
 | [],[],k,_=>by simp[TF,Eh,Na]
 | [],_::_,k,h=>by simp at h
 |_::_,[],k,h=>by simp at h
 |l::r,x::b,k,h=>by
  rw[TF,Eh]
  split
  ·rw[fF r b _ (by simpa using h),Na]
   congr 1
   rw[Int.add_mul,Int.mul_assoc,Zad (ib 0 l)]
  ·rfl
def qu:List (List (Int×Int))->List Int->Nat->Int->Nat×Int
 |l::ls,x::b,n,k=>if (Ld x 0 l).2=true then qu ls b (n+1) (k * ib 0 l+(Ld x 0 l).1) else (n,k)
 |_,_,n,k=>(n,k)
theorem dH:∀ (ls:List (List (Int×Int)))(bs:List Int)(n:Nat)(k:Int),∃ m,(qu ls bs n k).1=n+m/\m<=ls.length/\m<=bs.length/\(m=ls.length->TF ls (bs.take m) k=some (qu ls bs n k).2)/\
 (∀ j (h1:j < ls.length) (h2:j < bs.length),j < m->(Ld bs[j] 0 ls[j]).2=true)/\(∀ (h1:m < ls.length)(h2:m < bs.length),(Ld bs[m] 0 ls[m]).2=false)
 | [],bs,n,k=>⟨0,by simp[qu],by simp,by simp,fun _=>by simp[qu,TF],fun j h1=>by simp at h1,fun h1=>by simp at h1⟩
 |l::ls,[],n,k=>⟨0,by simp[qu],by simp,by simp,fun h=>by simp at h,fun j h1 h2=>by simp at h2,fun h1 h2=>by simp at h2⟩
 |l::ls,x::b,n,k=>by
  rw[qu]
  by_cases h:(Ld x 0 l).2=true
  ·rw[if_pos h]
   obtain⟨m,m1,m2,m3,m4,m5,m6⟩:=dH ls b (n+1) (k * ib 0 l+(Ld x 0 l).1);refine⟨m+1,by omega,by simp;omega,by simp;omega,fun he=> ?_,fun j h1 h2 hj=> ?_,fun h1 h2=> ?_⟩
   ·rw[lad,TF,if_pos h];exact m4 (by simpa using he)
   ·cases j with
    |zero=>exact h
    |succ j=>exact m5 j (by simpa using h1) (by simpa using h2) (by omega)
   ·exact m6 (by simpa using h1) (by simpa using h2)
  ·rw[kaa h]
   exact⟨0,rfl,by simp,by simp,fun he=>by simp at he,fun j h1 h2 hj=>by omega,fun h1 h2=>by simpa using h⟩
def Sl:List Ob->List Int->Nat->Pu
 | [],bs,most=>if 0 < most/\most=bs.length then ⟨3,most,0⟩ else ⟨2,max most 1,0⟩
 |s::ss,bs,most=>if (qu s.parts bs 0 0).1=s.parts.length then ⟨1,s.parts.length,s.first+(qu s.parts bs 0 0).2⟩ else Sl ss bs (max most (qu s.parts bs 0 0).1)
theorem OH{bs:List Int}:∀ {ss:List Ob}{i:Nat}(hi:i < ss.length)(most:Nat),(qu ss[i].parts bs 0 0).1=ss[i].parts.length->(∀ j (hj:j < ss.length),j < i->(qu ss[j].parts bs 0 0).1≠ss[j].parts.length)->Sl ss bs most=⟨1,ss[i].parts.length,ss[i].first+(qu ss[i].parts bs 0 0).2⟩
 |s::ss,0,hi,most,h,_=>by rw[Sl];exact if_pos h
 |s::ss,i+1,hi,most,h,hn=>by rw[Sl,kaa (show ¬(qu s.parts bs 0 0).1=s.parts.length from hn 0 (by simp) (by omega))];exact OH (ss:=ss) (by simpa using hi) _ h fun j hj E7=>hn (j+1) (by simpa using hj) (by omega)
theorem uA{bs:List Int}{M:Nat}:∀ {ss:List Ob}{most:Nat},(∀ s∈ss,(qu s.parts bs 0 0).1≠s.parts.length/\(qu s.parts bs 0 0).1<=M)->most<=M->(most=M\/∃ s∈ss,(qu s.parts bs 0 0).1=M)->Sl ss bs most=if 0 < M/\M=bs.length then ⟨3,M,0⟩ else ⟨2,max M 1,0⟩
 | [],most,_,hm,he=>by
   rcases he with rfl | ⟨s,hs,_⟩
   ·rfl
   ·cases hs
 |s::ss,most,h,hm,he=>by
  have hs:=h s (by simp);rw[Sl,kaa hs.1];refine uA (fun t ht=>h t (by simp[ht])) (by omega) ?_;rcases he with rfl | ⟨t,ht,hte⟩
  ·exact .inl (by omega)
  ·rcases Xaa.1 ht with rfl | ht
   ·exact .inl (by omega)
   ·exact .inr ⟨t,ht,hte⟩
theorem VZ{w:List Nat}{j:Nat}(h:j < (Wy w).length):(Wy w)[j]=((w[j]'(by simpa[Wy] using h):Nat):Int):=by simp[Wy]
theorem Tt(w:List Nat):(Wy w).length=w.length:=by simp[Wy]
theorem AH(w:List Nat)(n:Nat):(Wy w).take n=Wy (w.take n):=by simp[Wy,List.map_take]
section
variable {s:Ob}(hk:Be s)(w:List Nat)
include hk
theorem gY{j:Nat}(h1:j < s.parts.length)(h2:j < w.length):(Ld ((Wy w)[j]'(by rw[Tt];exact h2)) 0 s.parts[j]).2=Lo s j w[j]:=by
 have hp:=hk.parts _ (jaa h1)
 rw[VZ,JH hp];unfold Lo;rw[aaa h1]
theorem XE:∃ m,(qu s.parts (Wy w) 0 0).1=m/\m<=s.parts.length/\m<=w.length/\Wn s (w.take m)/\(m < w.length->¬Wn s (w.take (m+1)))/\(m=s.parts.length->Ti s (Wy (w.take m))=some (qu s.parts (Wy w) 0 0).2):=by
 obtain⟨m,m1,m2,m3,m4,m5,m6⟩:=dH s.parts (Wy w) 0 0
 rw[Tt] at m3;refine⟨m,by omega,m2,m3,fun j x hj=> ?_,fun E7 hm=> ?_,fun he=> ?_⟩
 ·have hjl:=(iaa.1 hj)
  obtain⟨hjl,hx⟩:=hjl;rw[zab] at hjl;rw[List.getElem_take] at hx;have:=m5 j (by omega) (by rw[Tt];omega) (by omega);rw[gY hk w (by omega) (by omega),hx] at this;exact this
 ·have hx:=hm m w[m] (by rw[Fac (by omega),aaa E7])
  by_cases h1:m < s.parts.length
  ·have:=m6 h1 (by rw[Tt];exact E7)
   rw[gY hk w h1 E7,hx] at this;cases this
  ·exact h1 (IH hx)
 ·have:=m4 he
  rw[fF _ _ _ (by rw[AH,Tt,zab];omega),Int.zero_mul,AH] at this;unfold Ti;rw[if_pos (by rw[Tt,zab];omega)];exact this
end
theorem KR{s:Ob}{w:List Nat}(h:Wn s w):w.length<=s.parts.length:=by
 rcases Sac w.length with h0 | h0
 ·omega
 ·have:=IH (h (w.length - 1) w[w.length - 1] (aaa _))
  omega
theorem uB{s:Ob}{w:List Nat}{n m:Nat}(h:Wn s (w.take m))(hn:n<=m):Wn s (w.take n):=fun j x hj=>h j x (by
 rw[Gab] at hj ⊢
 split at hj
 ·rw[if_pos (by omega)];exact hj
 ·cases hj)
theorem cW{ss:List Ob}{l:List (List ae)}(Ba:Xb ss)(I7:Hf ss)(hinj:Fm ss)(ha:ig ss=some l){w:List Nat}(hw:Bytes w)(J7:w≠[]):Sl ss (Wy w) 0=zu ss l (Wy w):=by
 obtain⟨m,hm,hc⟩:=xJ Ba I7 ha w hw;have hbt:∀ n,Bytes (w.take n):=fun n x hx=>hw x (uac hx);have hl:0 < w.length:=Sab.2 J7
 have Jad:∀ s∈ss,(qu s.parts (Wy w) 0 0).1=s.parts.length->Full s (w.take s.parts.length)/\s.parts.length<=w.length/\Ti s (Wy (w.take s.parts.length))=some (qu s.parts (Wy w) 0 0).2:=fun s hs he=>by
  obtain⟨n,n1,n2,n3,n4,_,n6⟩:=XE (Ba.ct s hs) w;have:n=s.parts.length:=by omega
  subst this;exact⟨⟨n4,by rw[zab];omega⟩,n3,n6 rfl⟩
 have F8:∀ s∈ss,∀ n,n<=w.length->Wn s (w.take n)->n<=(qu s.parts (Wy w) 0 0).1:=fun s hs n hn hmt=>by
  obtain⟨k,k1,k2,k3,k4,k5,k6⟩:=XE (Ba.ct s hs) w;rcases Qaa k n with h | h
  ·exact absurd (uB hmt h) (k5 (by omega))
  ·omega
 have kac:(∀ s∈ss,¬Full s (w.take m))->(m=w.length\/∀ s∈ss,¬Wn s (w.take (m+1)))->(w.take m=[]\/∃ s∈ss,Wn s (w.take m))->∀ s∈ss,(qu s.parts (Wy w) 0 0).1≠s.parts.length/\(qu s.parts (Wy w) 0 0).1<=m:=by
  intro h1 h2 h3 s hs;have hup:(qu s.parts (Wy w) 0 0).1<=m:=by
   obtain⟨k,k1,k2,k3,k4,k5,k6⟩:=XE (Ba.ct s hs) w;rcases h2 with h2 | h2
   ·omega
   ·rcases Qaa m k with h | h
    ·exact absurd (uB k4 h) (h2 s hs)
    ·omega
  refine⟨fun he=> ?_,hup⟩;obtain⟨f1,f2,_⟩:=Jad s hs he;rcases Qaa s.parts.length m with E7 | e9
  ·rcases h3 with h3 | ⟨t,ht,h3⟩
   ·have:=congrArg List.length h3
    rw[zab] at this;replace this:min m w.length=0:=this
    have:=(Ba.ct s hs).lo
    omega
   ·have hle:=KR h3
    rw[zab] at hle;exact oK Ba I7 hs ht (hbt s.parts.length) f1 (uB h3 (Nat.le_of_lt E7)) (by omega)
  ·have:s.parts.length=m:=by omega
   rw[this] at f1;exact h1 s hs f1
 have hM:(w.take m=[]\/∃ s∈ss,Wn s (w.take m))->(∀ s∈ss,(qu s.parts (Wy w) 0 0).1<=m)->(0=m\/∃ s∈ss,(qu s.parts (Wy w) 0 0).1=m):=by
  rintro (h | ⟨s,hs,h⟩) hle
  ·have:=congrArg List.length h
   rw[zab] at this;replace this:min m w.length=0:=this
   exact .inl (by omega)
  ·exact .inr ⟨s,hs,Nat.le_antisymm (hle s hs) (F8 s hs m hm h)⟩
 have Sai:(w.map fun (n:Nat)=>(n:Int))=Wy w:=rfl;rw[Sai] at hc;rcases hc with⟨c1,s,hs,hf⟩ | ⟨c1,c2,c3,c4⟩ | ⟨c1,c2,c3,c4,c5⟩
 ·
  obtain⟨i,hi,rfl⟩:=qab hs;have X7:ss[i].parts.length=m:=by rw[<- hf.2,zab];omega
  have hgi:(qu ss[i].parts (Wy w) 0 0).1=ss[i].parts.length:=by
   have h1:=F8 _ hs m hm hf.1
   obtain⟨k,k1,k2,_⟩:=XE (Ba.ct _ hs) w;omega
  have Tai:∀ j (hj:j < ss.length),(qu ss[j].parts (Wy w) 0 0).1=ss[j].parts.length->j=i:=fun j hj he=>by
   obtain⟨f1,f2,_⟩:=Jad _ (jaa hj) he;have h1:¬ss[j].parts.length < ss[i].parts.length:=fun E7=>oK Ba I7 (jaa hj) hs (hbt _) f1 (uB hf.1 (by omega)) E7
   have h2:¬ss[i].parts.length < ss[j].parts.length:=fun E7=>oK Ba I7 hs (jaa hj) (hbt _) hf (uB f1.1 (by omega)) E7
   have:ss[j].parts.length=m:=by omega
   rw[this] at f1;exact yR Ba hinj hj hi (hbt m) f1 hf
  rw[OH hi 0 hgi fun j hj E7 he=>by have:=Tai j hj he;omega];obtain⟨_,_,hr⟩:=Jad _ hs hgi;have hd:cv (Wy (w.take m)) ss=some (ss[i].first+(qu ss[i].parts (Wy w) 0 0).2):=by
   rw[X7] at hr;refine ZR hi hr fun j hj h=> ?_;have hfj:=(XO (Ba.ct _ (jaa hj)) _).1 h
   exact yR Ba hinj hj hi (hbt m) hfj hf
  unfold zu;rw[c1,if_pos rfl,Daa,AH,hd,X7];rfl
 ·
  have ht:w.take m=w:=by rw[c2,sab]
  have h3:w.take m=[]\/∃ s∈ss,Wn s (w.take m):=by rw[ht];exact c3
  have hn:=kac (by rw[ht];exact c4) (.inl c2) h3;rw[uA hn (Jac _) (hM h3 fun s hs=>(hn s hs).2),if_pos ⟨by omega,by rw[Tt];exact c2⟩];unfold zu;rw[c1,kaa (by simp),if_pos rfl,Daa]
 ·have hn:=kac c4 (.inr c5) c3
  rw[uA hn (Jac _) (hM c3 fun s hs=>(hn s hs).2),kaa (by rw[Tt];omega)];unfold zu;rw[c1,kaa (by simp),kaa (by simp),Daa]
theorem jJ{q:List Int}(hr:∀ x∈q,0<=x/\x<=255):Wy (q.map Int.toNat)=q:=by
 unfold Wy;rw[jad]
 conv=>rhs;rw[<- List.map_id q]
 exact iac fun x hx=>by have:=hr x hx;simp;omega
theorem nE{q:List Int}(hr:∀ x∈q,0<=x/\x<=255):Bytes (q.map Int.toNat):=by
 intro x hx;obtain⟨y,hy,rfl⟩:=fab.1 hx
 have:=hr y hy;omega
section
variable {ss:List Ob}{l:List (List ae)}(Ba:Xb ss)(I7:Hf ss)(ha:ig ss=some l)
include Ba I7 ha
theorem WE{q:List Int}(hr:∀ x∈q,0<=x/\x<=255){st:Int}(hs:stays l 0 q=some st):q.length < 8:=by
 have hm:=zy [] hs (i:=0);rw[wab,Zaa,Tg] at hm;obtain⟨m,_,hc⟩:=xJ Ba I7 ha (q.map Int.toNat) (nE hr);have hq:((q.map Int.toNat).map fun (n:Nat)=>(n:Int))=q:=jJ hr;rw[hq,hm] at hc;have hlen:(q.map Int.toNat).length=q.length:=haa ..
 rcases hc with⟨c1,_⟩ | ⟨c1,c2,c3,c4⟩ | ⟨c1,_⟩
 ·simp at c1
 ·rcases c3 with c3 | ⟨s,hs,c3⟩
  ·have:=congrArg List.length c3
   rw[hlen] at this;simp at this;simp[this]
  ·have h1:=KR c3
   have h2:=(Ba.ct s hs).hi
   have h3:(q.map Int.toNat).length≠s.parts.length:=fun h=>c4 s hs ⟨c3,h⟩
   omega
 ·simp at c1
omit Ba I7 ha in
theorem FI:∀ {a b:List Int}{st st':Int},stays l st a=some st'->stays l st (a++b)=stays l st' b
 | [],b,st,st',h=>by injection h with h;subst h;rfl
 |x::a,b,st,st',h=>by
  rw[stays] at h
  split at h
  ·cases h
  ·next hn=>rw[bab,stays,kaa hn];exact FI h
theorem qP{q:List Int}(hr:∀ x∈q,0<=x/\x<=255)(hs:stays l 0 q=some 0):q=[]:=by
 have xag:∀ n,stays l 0 (List.replicate n q).flatten=some 0:=by
  intro n
  induction n with
  |zero=>rfl
  |succ n ih=>rw[List.replicate_succ,Uab,FI hs];exact ih
 have:=WE Ba I7 ha (q:=(List.replicate 8 q).flatten) (fun x hx=>by
  obtain⟨y,hy,hxy⟩:=Hae.1 hx
  rw[Ead hy] at hxy;exact hr x hxy) (xag 8)
 have hl:(List.replicate 8 q).flatten.length=8 * q.length:=by simp;omega
 exact qaa (by omega)
end
section
variable (ss:List Ob)(l:List (List ae))
theorem D0{bs:List Int}(h:(zu ss l bs).kind=3):zu ss l bs=⟨3,bs.length,0⟩:=by
 obtain⟨k,k1,k2,k3⟩:=aD l bs 0 0;unfold zu at h ⊢;rcases k3 with⟨a,b⟩ | ⟨a,b⟩ | ⟨a,b⟩ <;> rw[a] at h ⊢ <;> simp at h ⊢
 omega
theorem Fu:∀ (n:Nat)(bs:List Int),bs.length<=n->dt ss l bs=(qf ss l bs).1++(if (qf ss l bs).2=[] then [] else [⟨3,(qf ss l bs).2.length,0⟩])/\
 (((qf ss l bs).1.map (·.size)).sum+(qf ss l bs).2.length=bs.length)/\(qf ss l bs).2=bs.drop ((qf ss l bs).1.map (·.size)).sum/\(∀ e∈(qf ss l bs).1,e.kind≠3)/\(qf ss l bs).1.length+(qf ss l bs).2.length<=bs.length
 |0,bs,h=>by have:bs=[]:=qaa (by omega);subst this;rw[Az ss l (.inl rfl)];simp[HB]
 |n+1,bs,h=>by
  by_cases h1:bs=[]
  ·subst h1
   rw[Az ss l (.inl rfl)];simp[HB]
  ·by_cases h3:(zu ss l bs).kind=3
   ·rw[Az ss l (.inr h3),QC ss l h1,D0 ss l h3]
    simp[h1,HB]
   ·have hs:=Ou ss l h1
    obtain⟨i1,i2,i3,i4,i5⟩:=Fu n (bs.drop (zu ss l bs).size) (by rw[Fab];omega);rw[Bp ss l h1 h3,QC ss l h1,i1];rw[Fab] at i2 i5;refine⟨rfl,by simp only[lab,List.sum_cons];omega,by simp only[lab,List.sum_cons];rw[<- List.drop_drop];exact i3,fun e he=> ?_,by simp only[Oaa];omega⟩;rcases Xaa.1 he with rfl | he
    ·exact h3
    ·exact i4 e he
end
def DR(k:Nat)(f:St->Option (Ex×St))(Q:Ex×St->Prop):Ex×St->Prop
 | (.goto j,s)=>if j=k then qd Q (uG (f s)) else False
 |r=>Q r
theorem bX{Q:Ex×St->Prop}{k:Nat}{f:St->Option (Ex×St)}{r:Option (Ex×St)}:qd Q (Tu k f r)=qd (DR k f Q) r:=by
 rcases r with _ | ⟨ex,s⟩
 ·rfl
 ·cases ex with
  |goto j=>show qd Q (if j=k then _ else _)=(if j=k then _ else _);by_cases h:j=k <;> simp[h,qd]
  |_=>rfl
def B2(Q:Ex×St->Prop):Ex×St->Prop
 | (.goto _,_)=>False
 |r=>Q r
theorem AZ{Q:Ex×St->Prop}{r:Option (Ex×St)}:qd Q (uG r)=qd (B2 Q) r:=by
 rcases r with _ | ⟨ex,s⟩
 ·rfl
 ·cases ex <;> rfl
theorem IT{Q:Ex×St->Prop}{s:St}:B2 Q (.ret,s)=Q (.ret,s):=rfl
theorem QJ{k:Nat}{f:St->Option (Ex×St)}{Q:Ex×St->Prop}{s:St}:DR k f Q (.ret,s)=Q (.ret,s):=rfl
theorem aY{k:Nat}{f:St->Option (Ex×St)}{Q:Ex×St->Prop}{s:St}:DR k f Q (.goto k,s)=qd Q (uG (f s)):=by simp[DR]
section
variable {T:PV}{ss:List Ob}{l:List (List ae)}(hT:Ko T ss l)(Ba:Xb ss)(ho:∀ e∈l,Dj e)
variable {call call':Sa}{A:List ba}{d c:Nat}(hA:Wd A)(h2:oZ A d c){bad Jc:Int}{ya fin:Bool}
 (h89:∀ H (k:Int),call 89 [.ptr d 0,.pv (i64 k)] H=ef call' Zb [.ptr d 0,.pv (i64 k)] H)
 (h81:∀ H (x:Int),call 81 [.ptr c 0,.pv (u8 x)] H=ef call' Ae [.ptr c 0,.pv (u8 x)] H)
 {call'':Sa} (h82:∀ H (n:Int),call' 82 [.ptr c 0,.pv (i64 n)] H=ef call'' Nc [.ptr c 0,.pv (i64 n)] H) (h83:∀ H,call' 83 [.ptr c 0] H=ef call'' Cc [.ptr c 0] H)
include hT Ba hA h2 h89 h82 h83 h81 ho
theorem QW{st:Int}{at_:Nat}(u9:at_<=900000){buf q:List Int}{h:Nat}(hq:xo buf h q)(hl:q.length < 8)(hs:stays l 0 q=some st)(hz:st=0↔q=[]){x:Int}(hx:0<=x/\x<=255){X:List ba}(hX:Still X){B:List Pu×List Int}(hB:B=Il ss l (bad==3) q st x):
 qd (fun r=>∃ (nl:Bool)(buf':List Int)(h':Nat)(st':Int)(Y:List ba),r=(.uq (A.length+X.length) nl 5 (Oc at_ B.1),dm A d c (Kc T bad c st' ((at_+(B.1.map (·.size)).sum:Nat):Int) Jc ya fin) (Xe buf' 8 h' B.2.length) (X++Y))/\xo buf' h' B.2/\stays l 0 B.2=some st'/\Still Y/\(nl=true->B.1=[])/\Y≠[])
  (ef call Le [.ptr d 0,.pv (u8 x)] (dm A d c (Kc T bad c st at_ Jc ya fin) (Xe buf 8 h q.length) X)):=by
 have gh:∀ E:Tr,E.get 5= .pv .ga->∀ o1 o2,fe (.FA 5 5) ⟨E,dm A d c o1 o2 X⟩=some ⟨E.set 5 (.uq (A.length+X.length) true 5 []),Xv A d c o1 o2 X ([]:List PV).length true []⟩:=fun E h o1 o2=>by simp only[fe,h,um,tt];rfl
 unfold Il at hB;have hj:=fun (st:Int)(at_:Nat)(u9:at_<=1000000)(buf q:List Int)(h:Nat)(hq:xo buf h q)(hl:q.length < 8)(h0:(Md l st x).2=true\/st=0)(es:List PV)(hes:es.length<=1000000000)(nl:Bool)(Y:List ba)(hY:Still Y)(E:Tr)(g0:E.get 0= .ptr d 0)(g1:E.get 1= .pv (u8 x))(g5:E.get 5= .uq (A.length+X.length) nl 5 es)=>iT hT Ba ho hA h2 h89 h81 h82 h83 (bad:=bad) (Jc:=Jc) (ya:=ya) (fin:=fin) u9 hq hl hx h0 hX hes hY g0 g1 g5 rfl;have hjh:=fun (hg:(Md l st x).2=false/\st≠0)(E:Tr)(g0:E.get 0= .ptr d 0)(g1:E.get 1= .pv (u8 x))(g5:E.get 5= .uq (A.length+X.length) true 5 [])=>sV hT Ba ho hA h2 h89 h82 h83 (bad:=bad) (Jc:=Jc) (ya:=ya) (fin:=fin) (at_:=at_) (by omega) hq hx hg hX (es:=[]) (by simp) (nl:=true) (Y:=[]) Still.nil g0 g1 g5
 generalize hQ:(fun r:AV×List ba=>∃ nl buf' h' st' Y,r=_/\_)=Q;simp -implicitDefEqProofs only[SX,sevalprocAttr,Le,sZ,bX,TB,gh,Tr.aa]
 by_cases hg:(Md l st x).2=false/\st≠0
 ·have Tal:q≠[]:=fun h=>hg.2 (hz.2 h)
  rw[kaa (by rw[hg.1];simp),kaa Tal] at hB;refine wa (hjh hg _ (by simp[Tr.aa]) (by simp[Tr.aa]) (by simp[Tr.aa])) ?_;rintro r ⟨E',Y',Iag,h1,rfl,r4,r5,r0,r1,rY,rq⟩
  by_cases h3:bad=3
  ·have e3:(bad==3)=true:=by rw[h3];rfl
   rw[if_pos h3];rw[e3,if_pos rfl] at hB;subst hB;simp -implicitDefEqProofs only[SX,sevalprocAttr,QJ,r4 h3];subst hQ;exact⟨false,Iag,h1,0,.tok 5 1 false::Y',by simp[Xv,Oc],rq,rfl,(Still.tok 5 1 false).cons rY,fun h=>(by cases h),by simp⟩
  ·have e3:(bad==3)=false:=beq_false_of_ne h3
   rw[kaa h3];rw[e3,kaa (by simp)] at hB;simp -implicitDefEqProofs only[SX,sevalprocAttr,aY,AZ];have y9:(Md l 0 x).2=true\/(0:Int)=0:= .inr rfl
   have hj2:=hj 0 (at_+q.length) (by omega) Iag [] h1 rq (by simp) y9 [Zg ⟨2,q.length,0⟩ at_] (by simp) false Y' rY E' r0 r1 r5;refine wa (show qd _ (oa call Wb ⟨E',Xv A d c (Kc T bad c 0 ((at_+q.length:Nat):Int) Jc ya fin) (Xe Iag 8 h1 0) X 1 false Y'⟩) from hj2) ?_;rintro r ⟨E2,nl2,Ual,h2',Y2,rfl,u4,uq,uY,un⟩;have h2n:nl2=false:=by cases nl2 with | false=>rfl | true=>exact absurd (un rfl).1 (by simp)
   simp -implicitDefEqProofs only[SX,sevalprocAttr,IT,u4];subst hQ;subst h2n;have hb0:cA ss l x=((iq ss l [] 0 x).1,(iq ss l [] 0 x).2.1):=by
    unfold cA iq
    repeat' split
    all_goals first | rfl | contradiction
   have Jag:stays l 0 (iq ss l [] 0 x).2.1=some (iq ss l [] 0 x).2.2:=by
    unfold iq
    split
    ·next h1=>
     split
     ·rfl
     ·next h2=>rw[Yaa,stays,kaa (by rw[h1];simp[h2]),stays]
    ·rfl
   rw[hb0] at hB;subst hB;have ha1:at_+q.length+((iq ss l [] 0 x).1.map (·.size)).sum=at_+(((⟨2,q.length,0⟩:Pu)::(iq ss l [] 0 x).1).map (·.size)).sum:=by simp;omega
   refine⟨false,Ual,h2',_,.tok 5 ((Oc (at_+q.length) (iq ss l [] 0 x).1).length+1) false::Y2,?_,uq,Jag,(Still.tok 5 _ false).cons uY,fun h=>(by cases h),by simp⟩;rw[ha1];rfl
 ·have h0:(Md l st x).2=true\/st=0:=by
   cases hc:(Md l st x).2 with
   |true=>exact .inl rfl
   |false=>exact .inr (Wad fun h=>hg ⟨hc,h⟩)
  refine wa (hj st at_ (by omega) buf q h hq hl h0 [] (by simp) true [] Still.nil _ (by simp[Tr.aa]) (by simp[Tr.aa]) (by simp[Tr.aa])) ?_;rintro r ⟨E',nl',buf',h',Y',rfl,r4,rq,rY,rn⟩;simp -implicitDefEqProofs only[SX,sevalprocAttr,QJ,r4];subst hQ;have hb:B=((iq ss l q st x).1,(iq ss l q st x).2.1):=by
   rw[hB];unfold iq
   by_cases h1:(Md l st x).2=true
   ·rw[if_pos h1,if_pos h1]
    by_cases h2:(Md l st x).1= -1
    ·rw[if_pos h2,if_pos h2]
    ·rw[kaa h2,kaa h2]
   ·have hq0:=hz.1 (h0.resolve_left h1)
    rw[kaa h1,kaa h1,if_pos hq0,hq0];rfl
  have Jag:stays l 0 (iq ss l q st x).2.1=some (iq ss l q st x).2.2:=by
   unfold iq
   split
   ·next h1=>
    split
    ·rfl
    ·next h2=>exact MA hs h1 h2
   ·rfl
  rw[hb];exact⟨nl',buf',h',_,.tok 5 _ nl'::Y',rfl,rq,Jag,(Still.tok 5 _ nl').cons rY,fun h=>(rn h).2,by simp⟩
end
theorem YS{ss:List Ob}{l:List (List ae)}{h:List Int}{st x:Int}(hb:(Il ss l true h st x).1.any Jq=true):(Il ss l true h st x).1.length=1:=by
 unfold Il at hb ⊢
 repeat' split
 all_goals first | rfl | (simp_all [Jq])
theorem DS{ss:List Ob}{l:List (List ae)}{s:Bool}{h:List Int}{st x:Int}:(Il ss l s h st x).1.length<=2/\(Il ss l s h st x).2.length<=h.length+1/\((Il ss l s h st x).1.map (·.size)).sum+(Il ss l s h st x).2.length<=h.length+1/\∀ y∈(Il ss l s h st x).2,y∈h\/y=x:=by
 unfold Il cA
 repeat' split
 all_goals simp
 all_goals first | omega | skip
def G2(k a n u:Int):ba:= .box ((Yn k a n u).map .pv)
section
variable {call:Sa}{A:List ba}{d c:Nat}(hA:Wd A)(h2:oZ A d c){T:PV}{bad st at_ Jc:Int}{fin:Bool}{buf:List Int}{h m:Int}{X:List ba}(hX:Still X)
include hA h2 hX
theorem TO{evs:List Pu}{p:Nat}(S7:bad=3->evs.any Jq=true->evs.length=1)(hlen:evs.length<=2){out:List PV}(D8:out.length<=1000000000){nl nl2:Bool}{Y:List ba}(hY:Still Y){B:AV}{n i:Int}{id2:Nat}(H7:id2 < A.length+X.length+1+Y.length)(hkB:AV.oe (A.length+X.length+1+Y.length) deep B=true)
 {E0:Tr} (g0:E0.get 0= .ptr d 0) (g7:E0.get 7= .uq (A.length+X.length) nl 5 out) (g38:E0.get 38=B) (g39:E0.get 39= .pv (i64 n)) (g40:E0.get 40= .pv (i64 i)) (g46:E0.get 46= .uq id2 nl2 5 (Oc p evs)) (g47:E0.get 47= .pv (i64 evs.length)) (g48:E0.get 48= .pv (i64 0)):
 qd (fun r=>r.1.stop=true/\∃ E nl' Y',r=(if bad=3/\evs.any Jq=true then .exit 0 else .exit 2,⟨E,Xv A d c (Kc T bad c st at_ Jc (decide (bad=3/\evs.any Jq=true)) fin) (Xe buf 8 h m) X (out++Oc p evs).length nl' Y'⟩)/\Still Y'/\E.get 0= .ptr d 0/\E.get 7= .uq (A.length+X.length) nl' 5 (out++Oc p evs)/\E.get 38=B/\E.get 39= .pv (i64 n)/\E.get 40= .pv (i64 i)/\(nl'=true->nl=true/\evs=[]))
  (oa call (.loop [0,7,38,39,40,46,47,48] Fe) ⟨E0,Xv A d c (Kc T bad c st at_ Jc false fin) (Xe buf 8 h m) X out.length nl Y⟩):=by
 obtain⟨K,hK⟩:∃ K:ba->Nat->Bool->List ba->List ba,K=fun o1 m' nl Y=>Xv A d c o1 (Xe buf 8 h m) X m' nl Y:=⟨_,rfl⟩;have hK':∀ o1 m' nl Y,Xv A d c o1 (Xe buf 8 h m) X m' nl Y=K o1 m' nl Y:=fun o1 m' nl Y=>by rw[hK]
 have gd:∀ o1 m' nl Y,(K o1 m' nl Y)[d]? =some o1:=fun o1 m' nl Y=>by rw[hK];exact dE h2
 have sd:∀ o1 m' nl Y o,(K o1 m' nl Y).set d o=K o m' nl Y:=fun o1 m' nl Y o=>by rw[hK];exact nH h2
 have kl:∀ o1 m' nl Y,(K o1 m' nl Y).length=A.length+X.length+1+Y.length:=fun o1 m' nl Y=>by rw[hK];show (dm _ _ _ _ _ _).length=_;rw[um];simp;omega
 have kx:∀ o1 m' nl Y Z,K o1 m' nl Y++Z=K o1 m' nl (Y++Z):=fun o1 m' nl Y Z=>by rw[hK];show dm _ _ _ _ _ _++_=dm _ _ _ _ _ _;rw[tt,Dab];rfl
 have kg:∀ sp m' nl Y,Still Y->Wd (K (Kc T bad c st at_ Jc sp fin) m' nl Y):=fun sp m' nl Y hY=>by rw[hK];exact ez hA h2 (hX.Xv hY)
 have kbx:∀ o1 m' nl Y r,(K o1 m' nl (Y++[.box (List.map AV.pv r)]))[A.length+X.length+1+Y.length]? =some (.box (r.map .pv)):=fun o1 m' nl Y r=>by rw[<- kx,Kaa (by rw[kl];exact paa _),kl,ead];rfl
 have kbs:∀ o1 m' nl Y r r',(K o1 m' nl (Y++[.box (List.map AV.pv r)])).set (A.length+X.length+1+Y.length) (.box (r'.map .pv))=K o1 m' nl (Y++[.box (List.map AV.pv r')]):=fun o1 m' nl Y r r'=>by rw[<- kx,Jab _ _ (by rw[kl];exact paa _),kl,ead,<-kx];rfl
 have pd:∀ sp m' nl Y k,place (K (Kc T bad c st at_ Jc sp fin) m' nl Y) k (.ptr d 0)=some (.ptr d k):=fun sp m' nl Y k=>NH (gd _ _ _ _) k;have ldd:=fun sp m' nl Y=>GA (gd (Kc T bad c st at_ Jc sp fin) m' nl Y);have s6:∀ sp m' nl Y (v:Bool),Ha (K (Kc T bad c st at_ Jc sp fin) m' nl Y) 1 (.ptr d 6) (.pv (.bool v))=some (K (Kc T bad c st at_ Jc v fin) m' nl Y):=fun sp m' nl Y v=>by rw[K5 (gd _ _ _ _),sd]
 simp only[hK'];refine Vn (σ:=Nat×List PV×Bool) (fun x=>[(0,.ptr d 0),(7,.uq (A.length+X.length) x.2.2 5 x.2.1),(38,B),(39,.pv (i64 n)),(40,.pv (i64 i)),(46,.uq id2 nl2 5 (Oc p evs)),(47,.pv (i64 evs.length)),(48,.pv (i64 x.1))])
  (fun x=>K (Kc T bad c st at_ Jc false fin) x.2.1.length x.2.2 Y) (fun k x=>x.1=k/\x.2.1=out++(Oc p evs).take k/\(x.2.2=true->nl=true/\k=0)/\(bad=3->evs.any Jq=true->k=0)) evs.length (by unfold ua;omega) (fun _=>rfl) ?_ ?_ ?_ ?_
 ·rintro k x _
  rw[kl,kl];have:=h2.ld
  exact⟨by simp[wj,Fo,Bz,H7,hkB,show d < A.length+X.length+1+Y.length by omega,show A.length+X.length < A.length+X.length+1+Y.length by omega],fun o ho=>kg _ _ _ _ hY _ (by rw[kl];exact paa _) o ho,rfl⟩
 ·exact⟨(0,out,nl),⟨g0,g7,g38,g39,g40,g46,g47,g48,trivial⟩,rfl,rfl,by simp,fun h=>⟨h,rfl⟩,fun _ _=>rfl⟩
 ·rintro _ ⟨k,acc,nl'⟩ E hi ⟨rfl,Naa,j8,Y7⟩ ⟨g0,g7,g38,g39,g40,g46,g47,g48,_⟩
  simp only at hi Naa j8 Y7 g0 g7 g38 g39 g40 g46 g47 g48;obtain⟨pl,F7⟩:=FH p evs k hi;have hL:(Oc p evs).length=evs.length:=Vf p evs
  have o8:(Oc p evs).take (k+1)=(Oc p evs).take k++[Zg evs[k] pl]:=by rw[xae,F7];rfl
  have J9:evs[k].kind=2->evs.any Jq=true:=fun h=>Rad.2 ⟨_,jaa hi,by simp[Jq,h]⟩
  have hnb:bad=3->evs[k].kind≠2->evs.any Jq=false:=fun h3 H8=>by
   cases hb:evs.any Jq with
   |false=>rfl
   |true=>
    have h1:=S7 h3 hb
    match evs,h1,hi,H8,hb,Y7 h3 hb with
    | [e],_,hi,H8,hb,hk0=>subst hk0;simp[Jq] at hb H8;exact absurd hb H8
  have hal:acc.length<=1000000002:=by rw[Naa,raa,zab];omega
  have e1:decide ((k:Int) < (evs.length:Int))=true:=Ea (by omega);have t1:IntKind.i64.wrap ((k:Int)+1)=((k+1:Nat):Int):=og (by omega)
  have a1:∀ H,ta H 5 (.uq id2 nl2 5 (Oc p evs)) (k:Int)=some (.pv (.rp (Yn evs[k].kind pl evs[k].size evs[k].u) 0)):=fun H=>by simp only[ta];rw[if_pos ⟨trivial,by unfold Ia;omega⟩,Daa,F7];rfl
  have a2:∀ H,pa H true 5 (.pv (.rp (Yn evs[k].kind pl evs[k].size evs[k].u) 0))=some (.pv (Zg evs[k] pl)):=fun H=>rfl;have hz:∀ o1 m' nl,K o1 m' nl Y++[.box [.pv (.int .i64 0),.pv (.int .i64 0),.pv (.int .i64 0),.pv (.int .i64 0),.pv (.int .i64 0)]]=K o1 m' nl (Y++[G2 0 0 0 0]):=fun o1 m' nl=>kx o1 m' nl Y _;have sT:∀ m' nl,Ha (K (Kc T bad c st at_ Jc false fin) m' nl (Y++[G2 0 0 0 0])) 5 (.ptr (A.length+X.length+1+Y.length) 0) (.pv (Zg evs[k] pl))=some (K (Kc T bad c st at_ Jc false fin) m' nl (Y++[G2 evs[k].kind pl evs[k].size evs[k].u])):=fun m' nl=>by have:=JK (b:=Yn evs[k].kind pl evs[k].size evs[k].u) (kbx (Kc T bad c st at_ Jc false fin) m' nl Y (Yn 0 0 0 0)) rfl rfl GK;rw[kbs] at this;exact this
  have lT:∀ m' nl,pa (K (Kc T bad c st at_ Jc false fin) m' nl (Y++[G2 evs[k].kind pl evs[k].size evs[k].u])) true 5 (.ptr (A.length+X.length+1+Y.length) 0)=some (.pv (Zg evs[k] pl)):=fun m' nl=>BK (kbx _ _ _ _ _) rfl;have pe:∀ m' nl j,place (K (Kc T bad c st at_ Jc false fin) m' nl (Y++[G2 evs[k].kind pl evs[k].size evs[k].u])) j (.ptr (A.length+X.length+1+Y.length) 0)=some (.ptr (A.length+X.length+1+Y.length) j):=fun m' nl j=>Jw (kbx _ _ _ _ _) j;have l0:∀ m' nl,pa (K (Kc T bad c st at_ Jc false fin) m' nl (Y++[G2 evs[k].kind pl evs[k].size evs[k].u])) false 1 (.ptr (A.length+X.length+1+Y.length) 0)=some (.pv (i64 evs[k].kind)):=fun m' nl=>Ar (kbx _ _ _ _ _) rfl;have ap:∀ Y e,Cb (K (Kc T bad c st at_ Jc false fin) acc.length nl' Y) false .uq 5 true 40 (.uq (A.length+X.length) nl' 5 acc) (.pv (.lit 5 [e]))=some (.uq (A.length+X.length) false 5 (acc++[e]),K (Kc T bad c st at_ Jc false fin) (acc++[e]).length false Y):=fun Y e=>by rw[hK];exact uP e rfl (by omega)
  have bsl:∀ (e:Pu)(a:Int)(H:List ba),((if (List.map AV.pv (Zg e a).cells).length=5/\(List.map AV.pv (Zg e a).cells).all AV.one=true then some (fa [AV.pv (PV.int IntKind.i64 0),AV.pv (PV.int IntKind.i64 0),AV.pv (PV.int IntKind.i64 0),AV.pv (PV.int IntKind.i64 0),AV.pv (PV.int IntKind.i64 0)] 0 (List.map AV.pv (Zg e a).cells)) else none).bind fun cs=>
   if cs.all AV.one=true then Option.map (fun ps=>(AV.pv (PV.lit 5 [PV.agg (List.take 5 ps)]),H)) (Tc cs) else none)=some (.pv (.lit 5 [Zg e a]),H):=fun e a H=>rfl
  have hYb:=hY.app (Still.box (Yn evs[k].kind pl evs[k].size evs[k].u))
  clear hK hK' gd sd kbx kbs;generalize evs[k]=e at *;generalize hQ:RH _ _ _ _=Q
  by_cases H8:e.kind=2
  ·have e2:(e.kind==2)=true:=by rw[H8];rfl
   by_cases h3:bad=3
   ·have e3:(bad==3)=true:=by rw[h3];rfl
    simp -implicitDefEqProofs only[SX,sevalprocAttr,Fe,g0,g7,g38,g39,g40,g46,g47,g48,e1,a1,a2,hz,kl,sT,lT,bsl,ap,pe,l0,e2,pd,ldd,e3,s6];subst hQ;have hk0:=Y7 h3 (J9 H8);have h1:=S7 h3 (J9 H8);subst hk0;have hw:acc++[Zg e pl]=out++Oc p evs:=by
     rw[Naa,Dab]
     congr 1
     rw[<- o8,Saa (by omega)]
    rw[if_pos ⟨h3,J9 H8⟩,decide_eq_true ⟨h3,J9 H8⟩,<-hw];exact⟨_,false,_,rfl,hYb,by simp[Tr.aa,g0],by simp[Tr.aa],by simp[Tr.aa,g38],by simp[Tr.aa,g39],by simp[Tr.aa,g40],fun h=>by cases h⟩
   ·have e3:(bad==3)=false:=beq_false_of_ne h3
    simp -implicitDefEqProofs only[SX,sevalprocAttr,Fe,g0,g7,g38,g39,g40,g46,g47,g48,e1,a1,a2,hz,kl,sT,lT,bsl,ap,pe,l0,e2,pd,ldd,e3,t1];subst hQ;exact⟨(k+1,acc++[Zg e pl],false),[G2 e.kind pl e.size e.u],by simp[Has,Tr.aa,g0,g38,g39,g40,g46,g47],(kx _ _ _ _ _).symm,rfl,by rw[o8,Naa,Dab],(fun h=>by cases h),fun h=>absurd h h3⟩
  ·have e2:(e.kind==2)=false:=beq_false_of_ne H8
   simp -implicitDefEqProofs only[SX,sevalprocAttr,Fe,g0,g7,g38,g39,g40,g46,g47,g48,e1,a1,a2,hz,kl,sT,lT,bsl,ap,pe,l0,e2,pd,ldd,t1];subst hQ;exact⟨(k+1,acc++[Zg e pl],false),[G2 e.kind pl e.size e.u],by simp[Has,Tr.aa,g0,g38,g39,g40,g46,g47],(kx _ _ _ _ _).symm,rfl,by rw[o8,Naa,Dab],(fun h=>by cases h),fun h3 h=>by rw[hnb h3 H8] at h;cases h⟩
 ·rintro⟨k,acc,nl'⟩ E ⟨hk,Naa,j8,Y7⟩ ⟨g0,g7,g38,g39,g40,g46,g47,g48,_⟩
  simp only at hk Naa j8 Y7 g0 g7 g38 g39 g40 g46 g47 g48 ⊢;subst hk;have hL:(Oc p evs).length=evs.length:=Vf p evs
  rw[Saa (by omega)] at Naa;have hno:¬(bad=3/\evs.any Jq=true):=fun h=>by
   have:=Y7 h.1 h.2
   have:=S7 h.1 h.2
   omega
  rw[kaa hno,decide_eq_false hno];have e1:decide ((evs.length:Int) < (evs.length:Int))=false:=Ga (by omega);generalize hQ:(fun r:Ex×St=>r.1.stop=true/\_)=Q;simp -implicitDefEqProofs only[SX,sevalprocAttr,Fe,g47,g48,e1];subst hQ;subst Naa;exact⟨rfl,_,nl',Y,rfl,hY,by simp[Tr.aa,g0],by simp[Tr.aa,g7],by simp[Tr.aa,g38],by simp[Tr.aa,g39],by simp[Tr.aa,g40],fun h=>⟨(j8 h).1,qaa (j8 h).2⟩⟩
end
def wz(l:List Pu):Nat:=(l.map (·.size)).sum
theorem SL(a b:List Pu):wz (a++b)=wz a+wz b:=by simp[wz]
structure XH(U:AV)(bs:List Int)(n0:Nat):Prop where
 len:∀ H,Sb H 0 U=some bs.length
 Z4:∀ H (i:Nat) (h:i < bs.length),ta H 1 U (i:Int)=some (.pv (.rp [u8 bs[i]] 0))
 oe:∀ n,n0<=n->AV.oe n deep U=true
 Ty:∀ b∈bs,0<=b/\b<=255
theorem XH.of{B:PV}{bs:List Int}(h:lk B bs)(n0:Nat):XH (.pv B) bs n0:=⟨h.Sb,fun H i hi=>h.Pd hi H,fun n _=>wj B,h.Ty⟩
theorem XH.uq{bs:List Int}(hr:∀ b∈bs,0<=b/\b<=255){id n0:Nat}(nl:Bool)(h:id < n0):XH (.uq id nl 1 (bs.map u8)) bs n0:=by
 refine⟨fun H=>by simp[Sb],fun H i hi=> ?_,fun n hn=>Bz (by omega),hr⟩;simp only[ta];rw[if_pos ⟨trivial,by unfold Ia;rw[haa];omega⟩,Daa,Eaa,aaa hi];rfl
section
variable {T:PV}{ss:List Ob}{l:List (List ae)}(hT:Ko T ss l)(Ba:Xb ss)(ho:∀ e∈l,Dj e)(I7:Hf ss)(ha:ig ss=some l)
variable {call call' call'' call3:Sa}{A:List ba}{d c:Nat}(hA:Wd A)(h2:oZ A d c){bad Jc:Int}{ya fin:Bool}
 (h90:∀ H (x:Int),call 90 [.ptr d 0,.pv (u8 x)] H=ef call' Le [.ptr d 0,.pv (u8 x)] H)
 (h89:∀ H (k:Int),call' 89 [.ptr d 0,.pv (i64 k)] H=ef call'' Zb [.ptr d 0,.pv (i64 k)] H)
 (h81:∀ H (x:Int),call' 81 [.ptr c 0,.pv (u8 x)] H=ef call'' Ae [.ptr c 0,.pv (u8 x)] H)
 (h82:∀ H (n:Int),call'' 82 [.ptr c 0,.pv (i64 n)] H=ef call3 Nc [.ptr c 0,.pv (i64 n)] H) (h83:∀ H,call'' 83 [.ptr c 0] H=ef call3 Cc [.ptr c 0] H)
include hT Ba ho I7 ha hA h2 h90 h89 h81 h82 h83
theorem dQ{a0:Nat}(ha0:a0<=65536){B:AV}{bs:List Int}(hB:XH B bs A.length)(hbs:bs.length<=65536){X:List ba}(hX:Still X){AE q0:List Int}{h0:Nat}{st0:Int}(hq0:xo AE h0 q0)(hs0:stays l 0 q0=some st0)
 {E0:Tr} (g0:E0.get 0= .ptr d 0) (g7:E0.get 7= .uq (A.length+X.length) true 5 []) (g38:E0.get 38=B) (g39:E0.get 39= .pv (i64 bs.length)) (g40:E0.get 40= .pv (i64 0)):
 qd (fun r=>r.1.stop=true/\∃ (E:Tr)(nl:Bool)(Y:List ba)(buf q:List Int)(h:Nat)(st:Int)(out:List Pu)(sp:Bool),r=(.exit 0,⟨E,Xv A d c (Kc T bad c st ((a0+wz out:Nat):Int) Jc sp fin) (Xe buf 8 h q.length) X (Oc a0 out).length nl Y⟩)/\E.get 7= .uq (A.length+X.length) nl 5 (Oc a0 out)/\Still Y/\xo buf h q/\stays l 0 q=some st/\
  Dl ss l (bad==3) q0 bs=(out,q,sp)/\(nl=true->out=[]))
  (oa call (.loop [0,7,38,39,40] uh) ⟨E0,Xv A d c (Kc T bad c st0 a0 Jc false fin) (Xe AE 8 h0 q0.length) X 0 true []⟩):=by
 have hlB:=hB.len
 have hq8:=WE Ba I7 ha hq0.Ty hs0
 refine Vn (σ:=Nat×List Int×Nat×List Int×Int×List Pu×Bool) (fun x=>[(0,.ptr d 0),(7,.uq (A.length+X.length) x.2.2.2.2.2.2 5 (Oc a0 x.2.2.2.2.2.1)),(38,B),(39,.pv (i64 bs.length)),(40,.pv (i64 x.1))])
  (fun x=>Xv A d c (Kc T bad c x.2.2.2.2.1 ((a0+wz x.2.2.2.2.2.1:Nat):Int) Jc false fin) (Xe x.2.1 8 x.2.2.1 x.2.2.2.1.length) X (Oc a0 x.2.2.2.2.2.1).length x.2.2.2.2.2.2 [])
  (fun k x=>x.1=k/\xo x.2.1 x.2.2.1 x.2.2.2.1/\stays l 0 x.2.2.2.1=some x.2.2.2.2.1/\Dl ss l (bad==3) q0 bs=(x.2.2.2.2.2.1++(Dl ss l (bad==3) x.2.2.2.1 (bs.drop k)).1,(Dl ss l (bad==3) x.2.2.2.1 (bs.drop k)).2)/\(x.2.2.2.2.2.2=true->x.2.2.2.2.2.1=[])/\wz x.2.2.2.2.2.1+x.2.2.2.1.length<=q0.length+k/\x.2.2.2.2.2.1.length<=2 * k)
  bs.length (by unfold ua;omega) (fun _=>rfl) ?_ ?_ ?_ ?_
 ·rintro k x _
  have hl:∀ o1 o2 n nl,(Xv A d c o1 o2 X n nl []).length=A.length+X.length+1:=fun o1 o2 n nl=>by unfold Xv;rw[um];simp;omega
  rw[hl,hl];have:=h2.ld
  exact⟨by simp[wj,Fo,Bz,hB.oe (A.length+X.length+1) (by omega),show d < A.length+X.length+1 by omega,show A.length+X.length < A.length+X.length+1 by omega],fun o ho'=>ez hA h2 (hX.Xv Still.nil) _ (by rw[um];simp;omega) o ho',rfl⟩
 ·exact⟨(0,AE,h0,q0,st0,[],true),⟨g0,g7,g38,g39,g40,trivial⟩,rfl,rfl,hq0,hs0,rfl,fun _=>rfl,by simp[wz],paa _⟩
 ·rintro _ ⟨i,buf,h,q,st,out,nl⟩ E hi ⟨rfl,hq,hs,hf,j8,L7,hol⟩ ⟨g0,g7,g38,g39,g40,_⟩
  simp only at hi hq hs hf j8 L7 hol g0 g7 g38 g39 g40;have Val:=WE Ba I7 ha hq.Ty hs
  have hx:=hB.Ty _ (jaa hi)
  have hz:st=0↔q=[]:=⟨fun h=>qP Ba I7 ha hq.Ty (by rw[hs,h]),fun h=>by subst h;injection hs with hs;exact hs.symm⟩;have e1:decide ((i:Int) < (bs.length:Int))=true:=Ea (by omega);have t1:IntKind.i64.wrap ((i:Int)+1)=((i+1:Nat):Int):=og (by omega)
  have hia:=fun H=>hB.Z4 H i hi
  rw[Paa hi,Dl,hs,Tac] at hf;generalize bs[i]=x at *;have hX1:Still (X++[.tok 5 (Oc a0 out).length nl]):=hX.app (Still.tok _ _ _)
  obtain⟨Bt,hBt⟩:∃ Bt,Bt=Il ss l (bad==3) q st x:=⟨_,rfl⟩;obtain⟨r,hr,nl2,buf',h',st',Y,rfl,hq',hs',hY,hn2,hYn⟩:=wc (QW hT Ba ho hA h2 h89 h81 h82 h83 (bad:=bad) (Jc:=Jc) (ya:=false) (fin:=fin) (at_:=a0+wz out) (by omega) hq Val hs hz hx hX1 hBt);rw[<- h90] at hr;rw[<- hBt] at hf;have L8:=DS (ss:=ss) (l:=l) (s:=bad==3) (h:=q) (st:=st) (x:=x);rw[<- hBt] at L8;have hlx:(X++[ba.tok 5 (Oc a0 out).length nl]).length=X.length+1:=by simp
  have hYl:0 < Y.length:=Sab.2 hYn
  have S7:bad=3->Bt.1.any Jq=true->Bt.1.length=1:=fun h3 hb=>by
   have e3:(bad==3)=true:=by rw[h3];rfl
   rw[e3] at hBt;rw[hBt] at hb ⊢;exact YS hb
  have s8:dm A d c (Kc T bad c st' ((a0+wz out+(Bt.1.map (·.size)).sum:Nat):Int) Jc false fin) (Xe buf' 8 h' Bt.2.length) ((X++[ba.tok 5 (Oc a0 out).length nl])++Y)=Xv A d c (Kc T bad c st' ((a0+wz out+(Bt.1.map (·.size)).sum:Nat):Int) Jc false fin) (Xe buf' 8 h' Bt.2.length) X (Oc a0 out).length nl Y:=by unfold Xv;rw[Dab];rfl
  rw[s8,hlx] at hr;have R8:call 90 [.ptr d 0,.pv (u8 x)] (Xv A d c (Kc T bad c st ((a0+wz out:Nat):Int) Jc false fin) (Xe buf 8 h q.length) X (Oc a0 out).length nl [])=some (.uq (A.length+(X.length+1)) nl2 5 (Oc (a0+wz out) Bt.1),Xv A d c (Kc T bad c st' ((a0+wz out+(Bt.1.map (·.size)).sum:Nat):Int) Jc false fin) (Xe buf' 8 h' Bt.2.length) X (Oc a0 out).length nl Y):=hr;have b9:=fun E0=>TO (call:=call) (bad:=bad) (st:=st') (at_:=((a0+wz out+(Bt.1.map (·.size)).sum:Nat):Int)) (Jc:=Jc) (fin:=fin) (buf:=buf') (h:=h') (m:=Bt.2.length) hA h2 (T:=T) hX (p:=a0+wz out) S7 L8.1 (out:=Oc a0 out) (by rw[Vf];omega) (nl:=nl) (nl2:=nl2) hY (B:=B) (n:=bs.length) (i:=i) (id2:=A.length+(X.length+1)) (by omega) (hB.oe _ (by omega)) (E0:=E0)
  have Wai:Oc a0 out++Oc (a0+wz out) Bt.1=Oc a0 (out++Bt.1):=(xB a0 out Bt.1).symm
  have Wal:a0+wz out+(Bt.1.map (·.size)).sum=a0+wz (out++Bt.1):=by rw[SL];show _+_+wz Bt.1=_;omega
  have Zaq:(Bt.1.map (·.size)).sum=wz Bt.1:=rfl
  generalize hQ:RH _ _ _ _=Q;simp -implicitDefEqProofs only[SX,sevalprocAttr,-List.reduceReplicate,uh,g0,g7,g38,g39,g40,e1,hia,Wa,R8,ZE];refine wa (b9 _ (by simp[Tr.aa,g0]) (by simp[Tr.aa,g7]) (by simp[Tr.aa,g38]) (by simp[Tr.aa,g39]) (by simp[Tr.aa,g40]) (by simp[Tr.aa]) (by simp[Tr.aa,Vf]) (by simp[Tr.aa])) ?_;rintro r ⟨_,E2,O9,Y3,rfl,hY3,r0,r7,r38,r39,r40,rn⟩;rw[Wai] at r7;rw[Wai,Wal]
  by_cases hsp:bad=3/\Bt.1.any Jq=true
  ·have e3:(bad==3)=true:=by rw[hsp.1];rfl
   rw[if_pos hsp,decide_eq_true hsp];simp -implicitDefEqProofs only[SX,sevalprocAttr,-List.reduceReplicate];subst hQ;simp only[e3,hsp.2,fae,if_true] at hf;refine⟨E2,O9,Y3,buf',Bt.2,h',st',out++Bt.1,true,rfl,r7,hY3,hq',hs',by rw[e3];exact hf,fun h=> ?_⟩;rw[j8 (rn h).1,(rn h).2];rfl
  ·have e3:(bad==3&&Bt.1.any Jq)=false:=by
    cases hb:(bad==3) with
    |false=>rfl
    |true=>
     have:bad=3:=by simpa using hb
     cases hc:Bt.1.any Jq with
     |false=>rfl
     |true=>exact absurd ⟨this,hc⟩ hsp
   rw[kaa hsp,decide_eq_false hsp];simp -implicitDefEqProofs only[SX,sevalprocAttr,-List.reduceReplicate,r0,r7,r38,r39,r40,t1];subst hQ;rw[e3,kaa (by simp)] at hf;refine⟨(i+1,buf',h',Bt.2,st',out++Bt.1,O9),Y3,by simp[Has,Tr.aa,r0,r7,r38,r39],?_,rfl,hq',hs',?_,fun h=> ?_,?_,?_⟩
   ·show _=dm _ _ _ _ _ _++_
    rw[tt,Dab];rfl
   ·rw[hf];simp only[Dab]
   ·rw[j8 (rn h).1,(rn h).2];rfl
   ·have:=L8.2.2.1
    show wz (out++Bt.1)+Bt.2.length<=_
    rw[SL];omega
   ·show (out++Bt.1).length<=_
    rw[raa];omega
 ·rintro⟨i,buf,h,q,st,out,nl⟩ E ⟨rfl,hq,hs,hf,j8,L7,hol⟩ ⟨g0,g7,g38,g39,g40,_⟩
  simp only at hq hs hf j8 L7 hol g0 g7 g38 g39 g40 ⊢;have e1:decide ((bs.length:Int) < (bs.length:Int))=false:=Ga (by omega);rw[vab,Dl,wab] at hf;generalize hQ:(fun r:Ex×St=>r.1.stop=true/\_)=Q;simp -implicitDefEqProofs only[SX,sevalprocAttr,-List.reduceReplicate,uh,g39,g40,e1];subst hQ;exact⟨rfl,_,nl,[],buf,q,h,st,out,false,rfl,by simp[Tr.aa,g7],Still.nil,hq,hs,hf,j8⟩
structure eR where
 buf:List Int
 h:Nat
 q:List Int
 st:Int
 at_:Nat
 Jc:Int
 ya:Bool
 fin:Bool
theorem RL{s:eR}(hd:A[d]? =some (Kc T bad c s.st s.at_ s.Jc false false))(hc:A[c]? =some (Xe s.buf 8 s.h s.q.length))(hq:xo s.buf s.h s.q)(hs:stays l 0 s.q=some s.st){U:AV}{bs:List Int}(hU:XH U bs A.length)
 (ht0:0<=s.Jc) (ht1:s.Jc+bs.length<=65536) (u9:s.at_<=65536):
 qd (fun r=>∃ (nl:Bool)(Y:List ba)(buf q:List Int)(h:Nat)(st:Int)(out:List Pu)(sp:Bool),r=(.mc [.uq A.length nl 5 (Oc s.at_ out),.pv (i64 0)],dm A d c (Kc T bad c st ((s.at_+wz out:Nat):Int) (s.Jc+bs.length) sp false) (Xe buf 8 h q.length) Y)/\Still Y/\xo buf h q/\stays l 0 q=some st/\
  Dl ss l (bad==3) s.q bs=(out,q,sp)/\(nl=true->out=[])/\0 < Y.length)
  (ef call Pf [.ptr d 0,U] A):=by
 have lU:=hU.len
 have tp:=sB hd hc;have pd:=NH hd;have ld:=GA hd;have hf:=BH (T:=T) (bad:=bad) (C:= .rp (Th s.buf 8 s.h s.q.length) 0) (st:=s.st) (at_:=s.at_) (Jc:=s.Jc) (ya:=false) (fin:=false);rw[kaa (by simp),kaa (by simp)] at hf;have w1:IntKind.i64.wrap (65536 - s.Jc)=65536 - s.Jc:=Aa (by omega)
 have w2:IntKind.i64.wrap (s.Jc+(bs.length:Int))=s.Jc+bs.length:=Aa (by omega)
 have fl:∀ n:Int,Nj (i64 n)=true:=fun n=>rfl;have d1:decide ((bs.length:Int) > 65536 - s.Jc)=false:=decide_eq_false (by omega);have z0:((0:Int)==0)=true:=rfl;have z1:((0:Int) != 0)=false:=rfl;have s5:Ha A 1 (.ptr d 5) (.pv (.int .i64 (s.Jc+bs.length)))=some (dm A d c (Kc T bad c s.st s.at_ (s.Jc+bs.length) false false) (Xe s.buf 8 s.h s.q.length) []):=by
  rw[P5 hd]
  congr 1
  unfold dm;rw[wab];obtain⟨hl,hg⟩:=iaa.1 hc
  have:(A.set d (Kc T bad c s.st s.at_ (s.Jc+bs.length) false false))[c]? =some (Xe s.buf 8 s.h s.q.length):=by rw[Gaa h2.ne];exact hc
  obtain⟨Z8,hg'⟩:=iaa.1 this
  rw[<- hg'];exact (List.set_getElem_self _).symm
 have gh:∀ E:Tr,E.get 7= .pv .ga->∀ o1 o2,fe (.FA 7 5) ⟨E,dm A d c o1 o2 []⟩=some ⟨E.set 7 (.uq A.length true 5 []),Xv A d c o1 o2 [] 0 true []⟩:=fun E h o1 o2=>by simp only[fe,h,um,tt];rfl
 have D7:=fun E0=>dQ (call:=call) (call':=call') (call'':=call'') (call3:=call3) hT Ba ho I7 ha hA h2 h90 h89 h81 h82 h83 (bad:=bad) (Jc:=s.Jc+bs.length) (fin:=false) (a0:=s.at_) u9 hU (by omega) (X:=[]) Still.nil hq hs (E0:=E0)
 generalize Tq T bad (.rp (Th s.buf 8 s.h s.q.length) 0) s.st s.at_ s.Jc false false=row at *
 generalize hQ:(fun r:AV×List ba=>∃ (nl:Bool)(Y:List ba)(buf q:List Int)(h:Nat)(st:Int)(out:List Pu)(sp:Bool),r=_/\_)=Q;simp -implicitDefEqProofs only[SP,WP,sevalprocAttr,-List.reduceReplicate,Pf,lU,tp,pd,ld,hf,fl,w1,d1,z0,z1,w2,s5,TB,gh,Tr.aa];refine wa (D7 _ (by simp[Tr.aa]) (by simp[Tr.aa]) (by simp[Tr.aa]) (by simp[Tr.aa]) (by simp[Tr.aa])) ?_;rintro r ⟨_,E,nl,Y,buf,q,h,st,out,sp,rfl,r7,hY,rq,rs,rf,rn⟩;simp -implicitDefEqProofs only[SP,WP,sevalprocAttr,-List.reduceReplicate,r7];subst hQ;exact⟨nl,.tok 5 (Oc s.at_ out).length nl::Y,buf,q,h,st,out,sp,rfl,(Still.tok _ _ _).cons hY,rq,rs,rf,rn,by simp⟩
end
theorem bL{ss:List Ob}(h:∀ s∈ss,∀ l∈s.parts,l.length<=1000)(h2:∀ s∈ss,s.parts.length<=1000)(h3:ss.length<=1000):pb (.lit 2 (ss.map pf)) ss (ss.map pf):=by
 refine⟨.inr rfl,by rw[haa],fun k e s he hs=> ?_,by unfold maxLen;omega⟩;rw[Eaa,hs] at he;injection he with he
 have hm:=nab hs;refine⟨_,_,he.symm,.inr rfl,by rw[haa],fun j v l hv hl=> ?_,by have:=h2 s hm;unfold maxLen;omega⟩;rw[Eaa,hl] at hv;injection hv with hv
 have:=h s hm l (nab hl);exact⟨.inr hv.symm,by omega⟩
theorem lM{ss:List Ob}{l:List (List ae)}{a b c d:Int}(hh:pb (.lit 2 (ss.map pf)) ss (ss.map pf))(hv:Dg [.agg [.lit 2 (ss.map pf)]]=some (.bool true))(hp:ff [.agg [.lit 2 (ss.map pf)]]=some (.mc [.agg [.bool true,i64 a,i64 b],i64 0]))
 (hi:Dh [.agg [.lit 2 (ss.map pf)]]=some (.mc [.agg [.bool true,i64 c,i64 d],i64 0])) (ha:ig ss=some l):
 Xb ss/\∃ T,Jb [.agg [.lit 2 (ss.map pf)]]=some (.mc [T,i64 0])/\Ko T ss l/\∀ e∈l,Dj e:=by
 obtain⟨x,h1,h2⟩:=ym hh;rw[hv] at h1;injection h1 with h1
 injection h1 with h1
 have Ba:=h2.1 h1.symm
 obtain⟨y,a',b',h3,h4⟩:=(BF hh).2 Ba
 rw[hp] at h3;injection h3 with h3
 injection h3 with h3
 injection h3 with h3 _
 injection h3 with h3
 injection h3 with h3 _
 injection h3 with h3
 have I7:=h4.1 h3.symm
 obtain⟨T,t1,t2⟩:=qF hh Ba I7 ha hi;exact⟨Ba,T,t1,t2,cH Ba I7 ha⟩
theorem S4.of{T:PV}{ss:List Ob}{l:List (List ae)}(hT:Ko T ss l)(Ba:Xb ss):S4 T fun u=>GY u ss:=by
 refine⟨fun u=>LW hT Ba u,fun u b h=> ?_,?_⟩
 ·obtain⟨s,hs,h1,h2,rfl,_⟩:=PM Ba.ct h
  have hk:=Ba.ct s hs
  have:=(Sy s.parts (u - s.first) 0 hk.parts (by omega) (by omega)).2.1
  have:=hk.hi
  omega
 ·obtain⟨S',NX,DG,RW,h,_⟩:=hT.ex
  exact⟨_,h⟩
section
variable {H:List ba}{T:PV}{cd:Int->Option (List Int)}{call:Sa}
end
def Mr:List Ob:=[⟨[[(0,127)]],0⟩,⟨[[(194,223)],[(128,191)]],128⟩,⟨[[(225,225)],[(128,191)],[(128,191)]],4096⟩]
theorem cO:Dg [.agg [.lit 2 (Mr.map pf)]]=some (.bool true):=by kernel_rfl
theorem wL:ff [.agg [.lit 2 (Mr.map pf)]]=some (.mc [.agg [.bool true,i64 0,i64 0],i64 0]):=by kernel_rfl
theorem YK:Dh [.agg [.lit 2 (Mr.map pf)]]=some (.mc [.agg [.bool true,i64 0,i64 0],i64 0]):=by kernel_rfl
def NC:List (List ae):=[[⟨0,127,-1⟩,⟨194,223,1⟩,⟨225,225,2⟩],[⟨128,191,-1⟩],[⟨128,191,1⟩]]
theorem ML:ig Mr=some NC:=by kernel_rfl
theorem NT.lit(us:List Int)(n0:Nat):NT (.pv (.lit 1 (us.map i64))) us n0:=by
 refine⟨fun H=>by simp[Sb],fun H i h=> ?_,fun n hn=>Qa⟩;simp only[ta];rw[if_pos ⟨trivial,by unfold Ia;rw[haa];omega⟩,Daa,Eaa,aaa h];rfl
theorem NT.ga(n0:Nat):NT (.pv .ga) [] n0:=⟨fun H=>rfl,fun H i h=>by simp at h,fun n hn=>Qa⟩
theorem NT.uq(us:List Int){id n0:Nat}(nl:Bool)(h:id < n0):NT (.uq id nl 1 (us.map i64)) us n0:=by
 refine⟨fun H=>by simp[Sb],fun H i h=> ?_,fun n hn=>eH (by omega)⟩;simp only[ta];rw[if_pos ⟨trivial,by unfold Ia;rw[haa];omega⟩,Daa,Eaa,aaa h];rfl
end Go.AM.B1
