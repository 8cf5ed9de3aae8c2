/- What functions of the program compute. -/
import Derived.Test.YtijlhblleiaomaaGreatL7
import Derived.Test.YtijlhblleiaomaaGreatL2
import Derived.Test.YtijlhblleiaomaaGreatL4
import Derived.Test.YtijlhblleiaomaaGreatL5
import Derived.Test.YtijlhblleiaomaaGreatL6
set_option linter.unusedVariables false
set_option linter.unusedSimpArgs false
namespace Go.AM.B1
open Go.AM Go.AM.So
theorem G4{call:Sa}(k:Nat)(s:St):oa call (.goto k) s=some (.goto k,s):=rfl
theorem ZY{call:Sa}(k:Nat)(a b:Ja)(s:St):oa call (.jumps k a b) s=yv k (oa call b) (oa call a s):=rfl
theorem PU(f:St->Option (Ex×St))(n:Nat)(s:St):Tz f (some (.goto n,s))=some (.goto n,s):=rfl
def jw(A:List ba)(d c:Nat)(o1 o2:ba)(X:List ba)(n:Nat)(nl:Bool)(Y:List ba):List ba:=Sl A d c o1 o2 (X++ .tok 5 n nl::Y)
section
variable {A:List ba}{d c:Nat}{o1 o2:ba}{X Y:List ba}{n:Nat}{nl:Bool}
theorem PZ:(jw A d c o1 o2 X n nl Y)[A.length+X.length]? =some (.tok 5 n nl):=by
 unfold jw;rw[Q2,Paa (waa _),uad];rfl
theorem WY(m:Nat)(b:Bool):(jw A d c o1 o2 X n nl Y).set (A.length+X.length) (.tok 5 m b)=jw A d c o1 o2 X m b Y:=by
 unfold jw;rw[VM,Xab _ _ (waa _),uad];rfl
theorem UQ{es:List PV}(e:PV)(hn:n=es.length)(hl:es.length<=1000000000000):Cb (jw A d c o1 o2 X n nl Y) false .uq 5 true 40 (.uq (A.length+X.length) nl 5 es) (.pv (.lit 5 [e]))=some (.uq (A.length+X.length) false 5 (es++[e]),jw A d c o1 o2 X (es++[e]).length false Y):=by
 subst hn;rw[Ih PZ rfl (by unfold eb;omega),WY,Aaa];rfl
end
theorem Still.jw{X Y:List ba}{n:Nat}{nl:Bool}(hX:Still X)(hY:Still Y):Still (X++ .tok 5 n nl::Y):=hX.app ((Still.tok 5 n nl).cons hY)
section
variable {T:PV}{ss:List Ob}{l:List (List de)}(hT:Uo T ss l)(Ba:Xb ss)(ho:∀ e∈l,sj e)
variable {call call':Sa}{A:List ba}{d c:Nat}(hA:Vd A)(h2:eZ A d c){bad Jc:Int}{ya fin:Bool}
 (h89:∀ H (k:Int),call 89 [.ptr d 0,.pv (i64 k)] H=ef call' Yb [.ptr d 0,.pv (i64 k)] H)
 (h81:∀ H (x:Int),call 81 [.ptr c 0,.pv (u8 x)] H=ef call' xe [.ptr c 0,.pv (u8 x)] H)
 {call'':Sa} (h82:∀ H (n:Int),call' 82 [.ptr c 0,.pv (i64 n)] H=ef call'' Nc [.ptr c 0,.pv (i64 n)] H) (h83:∀ H,call' 83 [.ptr c 0] H=ef call'' Dc [.ptr c 0] H)
include hT Ba hA h2 h89 h82 h83
theorem mO{st:Int}{at_:Nat}(Y8:at_<=1000000){buf q:List Int}{h:Nat}(hq:eo buf h q){X:List ba}(hX:Still X){n:Nat}{nl:Bool}{Y:List ba}(hY:Still Y){k u:Int}(hu:u=if k=1 then (Du q ss).getD 0 else 0):
 ∃ Y',Still Y'/\call 89 [.ptr d 0,.pv (i64 k)] (jw A d c (Lc T bad c st at_ Jc ya fin) (We buf 8 h q.length) X n nl Y)=some (.pv (ah ⟨k,q.length,u⟩ at_),jw A d c (Lc T bad c 0 ((at_+q.length:Nat):Int) Jc ya fin) (We buf 8 ((h+q.length) % 8:Nat) ([]:List Int).length) X n nl Y'):=by
 rw[h89];obtain⟨Y',y1,y2⟩:=dO (call:=call') (call':=call'') hA h2 (hX.jw hY (n:=n) (nl:=nl)) (T:=T) (bad:=bad) (st:=st) (Jc:=Jc) (at_:=at_) (ya:=ya) (fin:=fin) hq h82 h83 Y8 (k:=k) (u:=u)
  (fun hk=>by
   have:=uW hT Ba (B:= .lit 1 (q.map u8)) (bs:=q) ⟨.inr rfl,hq.By⟩;rw[if_pos hk] at hu;subst hu;cases hc:Du q ss with
   |some v=>exact⟨true,by rw[hc] at this;exact this⟩
   |none=>exact⟨false,by rw[hc] at this;exact this⟩)
  (fun hk=>by rw[taa hk] at hu;exact hu)
 refine⟨Y++Y',hY.app y1,?_⟩;unfold jw;rw[y2,Oab,fab];rfl
include h81 ho
def bq(ss:List Ob)(l:List (List de))(q:List Int)(st x:Int):List Kv×List Int×Int:=
 if (Nd l st x).2=true then (if (Nd l st x).1= -1 then ([⟨1,q.length+1,(Du (q++[x]) ss).getD 0⟩],[],0) else ([],q++[x],(Nd l st x).1)) else ([⟨2,q.length+1,0⟩],[],0)
theorem TT{st:Int}{at_:Nat}(Y8:at_<=1000000){buf q:List Int}{h:Nat}(hq:eo buf h q)(hl:q.length < 8){x:Int}(hx:0<=x/\x<=255)(h0:(Nd l st x).2=true\/st=0){X:List ba}(hX:Still X){es:List PV}(hes:es.length<=1000000000){nl:Bool}{Y:List ba}(hY:Still Y)
 {E:Tr} (g0:E.get 0= .ptr d 0) (g1:E.get 1= .pv (u8 x)) (g5:E.get 5= .uq (A.length+X.length) nl 5 es) {R:List Kv×List Int×Int} (hR:R=bq ss l q st x):
 qd (fun r=>∃ E' nl' buf' h' Y',r=(.ret,⟨E',jw A d c (Lc T bad c R.2.2 ((at_+(R.1.map (·.size)).sum:Nat):Int) Jc ya fin) (We buf' 8 h' R.2.1.length) X (es++Oc at_ R.1).length nl' Y'⟩)/\
  E'.get 4= .uq (A.length+X.length) nl' 5 (es++Oc at_ R.1)/\eo buf' h' R.2.1/\Still Y'/\(nl'=true->nl=true/\R.1=[])) (oa call Wb ⟨E,jw A d c (Lc T bad c st at_ Jc ya fin) (We buf 8 h q.length) X es.length nl Y⟩):=by
 have W7:=iJ hT ho hx (st:=st);obtain⟨K,hK⟩:∃ K:ba->ba->Nat->Bool->List ba->List ba,K=fun o1 o2 m nl Y=>jw A d c o1 o2 X m nl Y:=⟨_,rfl⟩;have hK':∀ o1 o2 m nl Y,jw A d c o1 o2 X m nl Y=K o1 o2 m nl Y:=fun o1 o2 m nl Y=>by rw[hK]
 have gd:∀ o1 o2 m nl Y,(K o1 o2 m nl Y)[d]? =some o1:=fun o1 o2 m nl Y=>by rw[hK];exact cE h2
 have gc:∀ o1 o2 m nl Y,(K o1 o2 m nl Y)[c]? =some o2:=fun o1 o2 m nl Y=>by rw[hK];exact SI h2
 have sd:∀ o1 o2 m nl Y o,(K o1 o2 m nl Y).set d o=K o o2 m nl Y:=fun o1 o2 m nl Y o=>by rw[hK];exact sF h2
 have sc:∀ o1 o2 m nl Y o,(K o1 o2 m nl Y).set c o=K o1 o m nl Y:=fun o1 o2 m nl Y o=>by rw[hK];exact kM h2
 have pd:∀ st at_ o2 m nl Y k,place (K (Lc T bad c st at_ Jc ya fin) o2 m nl Y) k (.ptr d 0)=some (.ptr d k):=fun st at_ o2 m nl Y k=>HF (gd _ _ _ _ _) k;have ldd:=fun st at_ o2 m nl Y=>tA (gd (Lc T bad c st at_ Jc ya fin) o2 m nl Y);have sst:∀ at_ o2 m nl Y v,Ha (K (Lc T bad c st at_ Jc ya fin) o2 m nl Y) 1 (.ptr d 3) (.pv (i64 v))=some (K (Lc T bad c v at_ Jc ya fin) o2 m nl Y):=fun at_ o2 m nl Y v=>by rw[P2 (gd _ _ _ _ _),sd]
 obtain⟨buf',hq',hpu⟩:=HX (call:=call') hq (gc (Lc T bad c st at_ Jc ya fin) (We buf 8 h q.length) es.length nl Y) hl hx;rw[sc,<-h81] at hpu;have ap:∀ o1 o2 Y e,Cb (K o1 o2 es.length nl Y) false .uq 5 true 40 (.uq (A.length+X.length) nl 5 es) (.pv (.lit 5 [e]))=some (.uq (A.length+X.length) false 5 (es++[e]),K o1 o2 (es++[e]).length false Y):=fun o1 o2 Y e=>by rw[hK];exact UQ e rfl (by omega)
 have bsl:∀ (e:Kv)(a:Int)(H:List ba),((if (List.map AV.pv (ah e a).cells).length=5/\(List.map AV.pv (ah e a).cells).all AV.one=true then some (fa [AV.pv (PV.int IntKind.i64 0),AV.pv (PV.int IntKind.i64 0),AV.pv (PV.int IntKind.i64 0),AV.pv (PV.int IntKind.i64 0),AV.pv (PV.int IntKind.i64 0)] 0 (List.map AV.pv (ah e a).cells)) else none).bind fun cs=>
  if cs.all AV.one=true then Option.map (fun ps=>(AV.pv (PV.lit 5 [PV.agg (List.take 5 ps)]),H)) (Tc cs) else none)=some (.pv (.lit 5 [ah e a]),H):=fun e a H=>rfl
 have x8:(q++[x]).length=q.length+1:=by simp
 have hsh:=fun (k u:Int)(hu:u=if k=1 then (Du (q++[x]) ss).getD 0 else 0)=>mO hT Ba hA h2 h89 h82 h83 (bad:=bad) (Jc:=Jc) (ya:=ya) (fin:=fin) (st:=st) Y8 hq' hX (n:=es.length) (nl:=nl) hY (k:=k) (u:=u) hu;unfold bq at hR;generalize hs1:(Nd l st x).1=s1 at *
 generalize hs2:(Nd l st x).2=s2 at *
 simp only[hK'] at hsh ⊢;clear hK hK' sc gc gd h89 h81 h82 h83;cases s2 with
 |true=>
  rw[if_pos rfl] at hR
  by_cases h1:s1= -1
  ·rw[if_pos h1] at hR
   subst hR;have e1:(s1== -1)=true:=by rw[h1];rfl
   obtain⟨Y',y1,y2⟩:=hsh 1 _ rfl;rw[if_pos rfl] at y2;simp only[x8] at y2 hpu;generalize hQ:(fun r:Ex×St=>∃ E' nl' buf' h' Y',r=_/\_)=Q;simp -implicitDefEqProofs only[SX,sevalprocAttr,Wb,g0,g1,g5,pd,ldd,W7,hpu,e1,y2,bsl,ap];subst hQ;refine⟨_,false,buf',(h+(q.length+1)) % 8,Y',rfl,?_,?_,y1,fun h=>by cases h⟩
   ·simp[Tr.aa,Oc]
   ·have:=(Vy (call:=call) hq' (H:=[.box ((Vh buf' 8 h (q++[x]).length).map .pv)]) (c:=0) rfl (waa _)).1
    rw[Hab,x8] at this;exact this
  ·rw[taa h1] at hR
   subst hR;have e1:(s1== -1)=false:=beq_false_of_ne h1;generalize hQ:(fun r:Ex×St=>∃ E' nl' buf' h' Y',r=_/\_)=Q;simp -implicitDefEqProofs only[SX,sevalprocAttr,Wb,g0,g1,g5,pd,ldd,W7,hpu,e1,sst];subst hQ;exact⟨_,nl,buf',h,Y,by rw[show es++Oc at_ []=es from Kab es];rfl,by simp[Tr.aa,Oc,g5],hq',hY,fun h=>⟨h,rfl⟩⟩
 |false=>
  rw[taa (by simp)] at hR;subst hR;have h00:st=0:=h0.resolve_left (by simp)
  subst h00;have z0:((0:Int) != 0)=false:=rfl;obtain⟨Y',y1,y2⟩:=hsh 2 0 rfl;simp only[x8] at y2 hpu;generalize hQ:(fun r:Ex×St=>∃ E' nl' buf' h' Y',r=_/\_)=Q;simp -implicitDefEqProofs only[SX,sevalprocAttr,Wb,g0,g1,g5,pd,ldd,W7,hpu,z0,y2,bsl,ap];subst hQ;refine⟨_,false,buf',(h+(q.length+1)) % 8,Y',rfl,?_,?_,y1,fun h=>by cases h⟩
  ·simp[Tr.aa,Oc]
  ·have:=(Vy (call:=call) hq' (H:=[.box ((Vh buf' 8 h (q++[x]).length).map .pv)]) (c:=0) rfl (waa _)).1
   rw[Hab,x8] at this;exact this
omit h81 in
theorem kU{st:Int}{at_:Nat}(Y8:at_<=1000000){buf q:List Int}{h:Nat}(hq:eo buf h q){x:Int}(hx:0<=x/\x<=255)(h0:(Nd l st x).2=false/\st≠0){X:List ba}(hX:Still X){es:List PV}(hes:es.length<=1000000000){nl:Bool}{Y:List ba}(hY:Still Y)
 {E:Tr} (g0:E.get 0= .ptr d 0) (g1:E.get 1= .pv (u8 x)) (g5:E.get 5= .uq (A.length+X.length) nl 5 es):
 qd (fun r=>∃ E' Y' buf' h',r=(if bad=3 then .ret else .goto 0,⟨E',jw A d c (Lc T bad c 0 ((at_+q.length:Nat):Int) Jc ya fin) (We buf' 8 h' ([]:List Int).length) X (es++[ah ⟨2,q.length,0⟩ at_]).length false Y'⟩)/\
  (bad=3->E'.get 4= .uq (A.length+X.length) false 5 (es++[ah ⟨2,q.length,0⟩ at_]))/\E'.get 5= .uq (A.length+X.length) false 5 (es++[ah ⟨2,q.length,0⟩ at_])/\E'.get 0= .ptr d 0/\E'.get 1= .pv (u8 x)/\Still Y'/\eo buf' h' [])
  (oa call Wb ⟨E,jw A d c (Lc T bad c st at_ Jc ya fin) (We buf 8 h q.length) X es.length nl Y⟩):=by
 have W7:=iJ hT ho hx (st:=st);obtain⟨K,hK⟩:∃ K:ba->ba->Nat->Bool->List ba->List ba,K=fun o1 o2 m nl Y=>jw A d c o1 o2 X m nl Y:=⟨_,rfl⟩;have hK':∀ o1 o2 m nl Y,jw A d c o1 o2 X m nl Y=K o1 o2 m nl Y:=fun o1 o2 m nl Y=>by rw[hK]
 have gd:∀ o1 o2 m nl Y,(K o1 o2 m nl Y)[d]? =some o1:=fun o1 o2 m nl Y=>by rw[hK];exact cE h2
 have pd:∀ st at_ o2 m nl Y k,place (K (Lc T bad c st at_ Jc ya fin) o2 m nl Y) k (.ptr d 0)=some (.ptr d k):=fun st at_ o2 m nl Y k=>HF (gd _ _ _ _ _) k;have ldd:=fun st at_ o2 m nl Y=>tA (gd (Lc T bad c st at_ Jc ya fin) o2 m nl Y);have ap:∀ o1 o2 Y e,Cb (K o1 o2 es.length nl Y) false .uq 5 true 40 (.uq (A.length+X.length) nl 5 es) (.pv (.lit 5 [e]))=some (.uq (A.length+X.length) false 5 (es++[e]),K o1 o2 (es++[e]).length false Y):=fun o1 o2 Y e=>by rw[hK];exact UQ e rfl (by omega)
 have bsl:∀ (e:Kv)(a:Int)(H:List ba),((if (List.map AV.pv (ah e a).cells).length=5/\(List.map AV.pv (ah e a).cells).all AV.one=true then some (fa [AV.pv (PV.int IntKind.i64 0),AV.pv (PV.int IntKind.i64 0),AV.pv (PV.int IntKind.i64 0),AV.pv (PV.int IntKind.i64 0),AV.pv (PV.int IntKind.i64 0)] 0 (List.map AV.pv (ah e a).cells)) else none).bind fun cs=>
  if cs.all AV.one=true then Option.map (fun ps=>(AV.pv (PV.lit 5 [PV.agg (List.take 5 ps)]),H)) (Tc cs) else none)=some (.pv (.lit 5 [ah e a]),H):=fun e a H=>rfl
 obtain⟨Y',y1,y2⟩:=mO hT Ba hA h2 h89 h82 h83 (bad:=bad) (Jc:=Jc) (ya:=ya) (fin:=fin) (st:=st) Y8 hq hX (n:=es.length) (nl:=nl) hY (k:=2) (u:=0) rfl;have hqn:=(Vy (call:=call) hq (H:=[.box ((Vh buf 8 h q.length).map .pv)]) (c:=0) rfl (waa _)).1
 rw[Hab] at hqn;rw[h0.1] at W7;generalize hs1:(Nd l st x).1=s1 at *
 simp only[hK'] at y2 ⊢;clear hK hK' gd h89 h82 h83;have z0:(st != 0)=true:=by simp[h0.2]
 by_cases h3:bad=3
 ·have e3:(bad==3)=true:=by rw[h3];rfl
  rw[if_pos h3];generalize hQ:(fun r:Ex×St=>∃ E' Y' buf' h',r=_/\_)=Q;simp -implicitDefEqProofs only[SX,sevalprocAttr,Wb,g0,g1,g5,pd,ldd,W7,z0,y2,bsl,ap,e3];subst hQ;exact⟨_,Y',buf,_,rfl,fun _=>by simp[Tr.aa],by simp[Tr.aa],by simp[Tr.aa,g0],by simp[Tr.aa,g1],y1,hqn⟩
 ·have e3:(bad==3)=false:=beq_false_of_ne h3
  rw[taa h3];generalize hQ:(fun r:Ex×St=>∃ E' Y' buf' h',r=_/\_)=Q;simp -implicitDefEqProofs only[SX,sevalprocAttr,Wb,g0,g1,g5,pd,ldd,W7,z0,y2,bsl,ap,e3,G4,PU];subst hQ;exact⟨_,Y',buf,_,rfl,fun h=>absurd h h3,by simp[Tr.aa],by simp[Tr.aa,g0],by simp[Tr.aa,g1],y1,hqn⟩
end
def Nq(T:PV)(bad:Int)(C:PV)(st at_ Jc:Int)(ya fin:Bool):List PV:=[T,i64 bad,C,i64 st,i64 at_,i64 Jc,.bool ya,.bool fin]
theorem HB{H:List ba}{d c:Nat}{T:PV}{bad st at_ Jc:Int}{ya fin:Bool}{buf:List Int}{r h n:Int}(hd:H[d]? =some (Lc T bad c st at_ Jc ya fin))(hc:H[c]? =some (We buf r h n)):
 Ub H 6 (.ptr d 0)=some (.rp (Nq T bad (.rp (Vh buf r h n) 0) st at_ Jc ya fin) 0):=by
 have h1:=VK hc 4;rw[Ub];simp only[hd,Lc,oO,Ra,oB,h1,Daa,Kaa];rfl
section
variable (T:PV)(bad:Int)(C:PV)(st at_ Jc:Int)(ya fin:Bool)(H:List ba)
theorem ZB:pa H false 1 (.pv (.rp (Nq T bad C st at_ Jc ya fin) 0))=some (.pv T)/\pa H false 1 (.pv (.rp (Nq T bad C st at_ Jc ya fin) 1))=some (.pv (i64 bad))/\pa H false 1 (.pv (.rp (Nq T bad C st at_ Jc ya fin) 2))=some (.pv C)/\
 pa H false 1 (.pv (.rp (Nq T bad C st at_ Jc ya fin) 5))=some (.pv (i64 Jc))/\pa H false 1 (.pv (.rp (Nq T bad C st at_ Jc ya fin) 6))=some (.pv (.bool ya))/\pa H false 1 (.pv (.rp (Nq T bad C st at_ Jc ya fin) 7))=some (.pv (.bool fin)):=⟨rfl,rfl,rfl,rfl,rfl,rfl⟩
end
section
variable {T:PV}{bad:Int}{C:PV}{st at_ Jc:Int}{ya fin:Bool}
theorem wH:we [.rp (Nq T bad C st at_ Jc ya fin) 0]=some (i64 (if fin then 181 else if ya then 182 else 0)):=by
 have ld:=ZB T bad C st at_ Jc ya fin;have pl:=Py (Nq T bad C st at_ Jc ya fin);generalize Nq T bad C st at_ Jc ya fin=row at *;have e1:∀ H,Kq H 1 (.pv (.rp row 0)) (.pv .qf)=some false:=fun H=>rfl;cases fin with
 |true=>simp -implicitDefEqProofs only[we,SX,sevalprocAttr,Lg,e1,pl,ld,if_true]
 |false=>
  cases ya with
  |true=>simp -implicitDefEqProofs only[we,SX,sevalprocAttr,Lg,e1,pl,ld,if_true,Baa,if_false]
  |false=>simp -implicitDefEqProofs only[we,SX,sevalprocAttr,Lg,e1,pl,ld,Baa,if_false]
theorem jP:Ek [.rp (Nq T bad C st at_ Jc ya fin) 0]=some (i64 Jc):=by
 have ld:=ZB T bad C st at_ Jc ya fin;have pl:=Py (Nq T bad C st at_ Jc ya fin);generalize Nq T bad C st at_ Jc ya fin=row at *;have e1:∀ H,Kq H 1 (.pv (.rp row 0)) (.pv .qf)=some false:=fun H=>rfl;simp -implicitDefEqProofs only[Ek,SX,sevalprocAttr,Ho,e1,pl,ld]
theorem pL:Kj [.rp (Nq T bad C st at_ Jc ya fin) 0]=some (.bool ya):=by
 have ld:=ZB T bad C st at_ Jc ya fin;have pl:=Py (Nq T bad C st at_ Jc ya fin);generalize Nq T bad C st at_ Jc ya fin=row at *;have e1:∀ H,Kq H 1 (.pv (.rp row 0)) (.pv .qf)=some false:=fun H=>rfl;simp -implicitDefEqProofs only[Kj,SX,sevalprocAttr,Jm,e1,pl,ld]
theorem TI{buf q:List Int}{h:Nat}{r:Int}(hq:eo buf h q):Zb [.rp (Nq T bad (.rp (Vh buf r h q.length) 0) st at_ Jc ya fin) 0]=some (i64 q.length):=by
 have hl:=Ov (r:=r) hq;have ld:=ZB T bad (.rp (Vh buf r h q.length) 0) st at_ Jc ya fin;have pl:=Py (Nq T bad (.rp (Vh buf r h q.length) 0) st at_ Jc ya fin);generalize Nq T bad (.rp (Vh buf r h q.length) 0) st at_ Jc ya fin=row at *;have e1:∀ H,Kq H 1 (.pv (.rp row 0)) (.pv .qf)=some false:=fun H=>rfl;simp -implicitDefEqProofs only[Zb,SX,sevalprocAttr,Zk,e1,pl,ld,hl]
theorem sN{buf q:List Int}{h:Nat}{r:Int}(hq:eo buf h q):zk [.rp (Vh buf r h q.length) 0]=some (i64 r):=by
 obtain⟨c8,c9,c10⟩:=BH hq.len (r:=r) (h:=h) (n:=q.length)
 generalize Vh buf r h q.length=row at *
 have e1:∀ H,Kq H 1 (.pv (.rp row 0)) (.pv .qf)=some false:=fun H=>rfl;have pl:=Py row;have ld:=fun H=>nK c8 H;simp -implicitDefEqProofs only[zk,SX,sevalprocAttr,Um,e1,pl,ld]
theorem GU{buf q:List Int}{h:Nat}{r:Int}(hq:eo buf h q):Pf [.rp (Nq T bad (.rp (Vh buf r h q.length) 0) st at_ Jc ya fin) 0]=some (i64 r):=by
 have hl:=sN (r:=r) hq;have ld:=ZB T bad (.rp (Vh buf r h q.length) 0) st at_ Jc ya fin;have pl:=Py (Nq T bad (.rp (Vh buf r h q.length) 0) st at_ Jc ya fin);generalize Nq T bad (.rp (Vh buf r h q.length) 0) st at_ Jc ya fin=row at *;have e1:∀ H,Kq H 1 (.pv (.rp row 0)) (.pv .qf)=some false:=fun H=>rfl;simp -implicitDefEqProofs only[Pf,SX,sevalprocAttr,ql,e1,pl,ld,hl]
end
section
variable {S:PV}{ss:List Ob}{es:List PV}(hS:qb S ss es)(Ba:Xb ss)
include hS Ba
end
open Go.AM
theorem lk.take{B:PV}{bs:List Int}(h:lk B bs){n:Nat}(hn:n<=bs.length):∃ B',(∀ H,ug H 1 (.pv B) none (some (n:Int))=some (.pv B'))/\lk B' (bs.take n)/\(AV.pv B').one=true:=by
 rcases h.is with⟨rfl,hb⟩ | rfl
 ·have:bs=[]:=by simpa using hb
  subst this;have:n=0:=by simpa using hn
  subst this;exact⟨.ga,fun H=>rfl,⟨.inl ⟨rfl,rfl⟩,by simp⟩,rfl⟩
 ·refine⟨.lit 1 ((bs.take n).map (PV.int .u8)),fun H=> ?_,⟨.inr rfl,fun b hb=>h.By b (xac hb)⟩,rfl⟩
  simp only[ug,aad,Option.getD_none];rw[if_pos ⟨by omega,trivial,by omega,by omega,by simp;omega⟩];simp[List.map_take]
theorem eR{ss:List Ob}(Ba:Xb ss)(hinj:Gm ss){i j:Nat}(hi:i < ss.length)(hj:j < ss.length){w:List Nat}(hw:Bytes w)(h1:Full ss[i] w)(h2:Full ss[j] w):i=j:=by
 have key:∀ i j (hi:i < ss.length) (hj:j < ss.length),i < j->Full ss[i] w->Full ss[j] w->False:=by
  intro i j hi hj hlt h1 h2;have e:ss[i].parts.length=ss[j].parts.length:=by rw[<- h1.2,<-h2.2]
  have:=hinj i j hi hj hlt e;rw[dM (Ba.ft _ (saa hi)) (Ba.ft _ (saa hj)) (by omega) hw h1 h2.1] at this;cases this
 rcases Nat.lt_trichotomy i j with h | h | h
 ·exact (key i j hi hj h h1 h2).elim
 ·exact h
 ·exact (key j i hj hi h h2 h1).elim
theorem tR{b:List Int}:∀ {ss:List Ob}{i:Nat}(hi:i < ss.length){k:Int},Oi ss[i] b=some k->(∀ j (hj:j < ss.length),(Oi ss[j] b).isSome->j=i)->Du b ss=some (ss[i].first+k)
 |s::ss,0,_,k,hk,_=>by have hk:Oi s b=some k:=hk;rw[Du,hk];rfl
 |s::ss,i+1,hi,k,hk,h=>by
  have hn:Oi s b=none:=by
   cases hr:Oi s b with
   |none=>rfl
   |some x=>have:=h 0 (by simp) (by show (Oi s b).isSome=true;rw[hr];rfl);omega
  rw[Du,hn];exact tR (ss:=ss) (i:=i) (by simpa using hi) hk fun j hj hs=>by have:=h (j+1) (by simpa using hj) hs;omega
def KF:List (List (Int×Int))->List Int->Int->Option Int
 |l::r,x::b,k=>if (Md x 0 l).2=true then KF r b (k * ib 0 l+(Md x 0 l).1) else none
 |_,_,k=>some k
theorem YF:∀ (ls:List (List (Int×Int)))(bs:List Int)(k:Int),bs.length=ls.length->KF ls bs k=Dh ls bs (k * Na ls)
 | [],[],k,_=>by simp[KF,Dh,Na]
 | [],_::_,k,h=>by simp at h
 |_::_,[],k,h=>by simp at h
 |l::r,x::b,k,h=>by
  rw[KF,Dh]
  split
  ·rw[YF r b _ (by simpa using h),Na]
   congr 1
   rw[Int.add_mul,Int.mul_assoc,jae (ib 0 l)]
  ·rfl
def iu:List (List (Int×Int))->List Int->Nat->Int->Nat×Int
 |l::ls,x::b,n,k=>if (Md x 0 l).2=true then iu ls b (n+1) (k * ib 0 l+(Md x 0 l).1) else (n,k)
 |_,_,n,k=>(n,k)
theorem DH:∀ (ls:List (List (Int×Int)))(bs:List Int)(n:Nat)(k:Int),∃ m,(iu ls bs n k).1=n+m/\m<=ls.length/\m<=bs.length/\(m=ls.length->KF ls (bs.take m) k=some (iu ls bs n k).2)/\
 (∀ j (h1:j < ls.length) (h2:j < bs.length),j < m->(Md bs[j] 0 ls[j]).2=true)/\(∀ (h1:m < ls.length)(h2:m < bs.length),(Md bs[m] 0 ls[m]).2=false)
 | [],bs,n,k=>⟨0,by simp[iu],by simp,by simp,fun _=>by simp[iu,KF],fun j h1=>by simp at h1,fun h1=>by simp at h1⟩
 |l::ls,[],n,k=>⟨0,by simp[iu],by simp,by simp,fun h=>by simp at h,fun j h1 h2=>by simp at h2,fun h1 h2=>by simp at h2⟩
 |l::ls,x::b,n,k=>by
  rw[iu]
  by_cases h:(Md x 0 l).2=true
  ·rw[if_pos h]
   obtain⟨m,m1,m2,m3,m4,m5,m6⟩:=DH ls b (n+1) (k * ib 0 l+(Md x 0 l).1);refine⟨m+1,by omega,by simp;omega,by simp;omega,fun he=> ?_,fun j h1 h2 hj=> ?_,fun h1 h2=> ?_⟩
   ·rw[yad,KF,if_pos h];exact m4 (by simpa using he)
   ·cases j with
    |zero=>exact h
    |succ j=>exact m5 j (by simpa using h1) (by simpa using h2) (by omega)
   ·exact m6 (by simpa using h1) (by simpa using h2)
  ·rw[taa h]
   exact⟨0,rfl,by simp,by simp,fun he=>by simp at he,fun j h1 h2 hj=>by omega,fun h1 h2=>by simpa using h⟩
def nm:List Ob->List Int->Nat->Kv
 | [],bs,most=>if 0 < most/\most=bs.length then ⟨3,most,0⟩ else ⟨2,max most 1,0⟩
 |s::ss,bs,most=>if (iu s.parts bs 0 0).1=s.parts.length then ⟨1,s.parts.length,s.first+(iu s.parts bs 0 0).2⟩ else nm ss bs (max most (iu s.parts bs 0 0).1)
theorem bG{bs:List Int}:∀ {ss:List Ob}{i:Nat}(hi:i < ss.length)(most:Nat),(iu ss[i].parts bs 0 0).1=ss[i].parts.length->(∀ j (hj:j < ss.length),j < i->(iu ss[j].parts bs 0 0).1≠ss[j].parts.length)->nm ss bs most=⟨1,ss[i].parts.length,ss[i].first+(iu ss[i].parts bs 0 0).2⟩
 |s::ss,0,hi,most,h,_=>by rw[nm];exact if_pos h
 |s::ss,i+1,hi,most,h,hn=>by rw[nm,taa (show ¬(iu s.parts bs 0 0).1=s.parts.length from hn 0 (by simp) (by omega))];exact bG (ss:=ss) (by simpa using hi) _ h fun j hj hlt=>hn (j+1) (by simpa using hj) (by omega)
theorem UA{bs:List Int}{M:Nat}:∀ {ss:List Ob}{most:Nat},(∀ s∈ss,(iu s.parts bs 0 0).1≠s.parts.length/\(iu s.parts bs 0 0).1<=M)->most<=M->(most=M\/∃ s∈ss,(iu s.parts bs 0 0).1=M)->nm ss bs most=if 0 < M/\M=bs.length then ⟨3,M,0⟩ else ⟨2,max M 1,0⟩
 | [],most,_,hm,he=>by
   rcases he with rfl | ⟨s,hs,_⟩
   ·rfl
   ·cases hs
 |s::ss,most,h,hm,he=>by
  have hs:=h s (by simp);rw[nm,taa hs.1];refine UA (fun t ht=>h t (by simp[ht])) (by omega) ?_;rcases he with rfl | ⟨t,ht,hte⟩
  ·exact .inl (by omega)
  ·rcases bab.1 ht with rfl | ht
   ·exact .inl (by omega)
   ·exact .inr ⟨t,ht,hte⟩
theorem DZ{w:List Nat}{j:Nat}(h:j < (fy w).length):(fy w)[j]=((w[j]'(by simpa[fy] using h):Nat):Int):=by simp[fy]
theorem Ht(w:List Nat):(fy w).length=w.length:=by simp[fy]
theorem lH(w:List Nat)(n:Nat):(fy w).take n=fy (w.take n):=by simp[fy,List.map_take]
section
variable {s:Ob}(hk:Be s)(w:List Nat)
include hk
theorem AX{j:Nat}(h1:j < s.parts.length)(h2:j < w.length):(Md ((fy w)[j]'(by rw[Ht];exact h2)) 0 s.parts[j]).2=Jo s j w[j]:=by
 have hp:=hk.parts _ (saa h1)
 rw[DZ,HG hp];unfold Jo;rw[caa h1]
theorem TE:∃ m,(iu s.parts (fy w) 0 0).1=m/\m<=s.parts.length/\m<=w.length/\mo s (w.take m)/\(m < w.length->¬mo s (w.take (m+1)))/\(m=s.parts.length->Oi s (fy (w.take m))=some (iu s.parts (fy w) 0 0).2):=by
 obtain⟨m,m1,m2,m3,m4,m5,m6⟩:=DH s.parts (fy w) 0 0
 rw[Ht] at m3;refine⟨m,by omega,m2,m3,fun j x hj=> ?_,fun hlt hm=> ?_,fun he=> ?_⟩
 ·have hjl:=(qaa.1 hj)
  obtain⟨hjl,hx⟩:=hjl;rw[Lab] at hjl;rw[List.getElem_take] at hx;have:=m5 j (by omega) (by rw[Ht];omega) (by omega);rw[AX hk w (by omega) (by omega),hx] at this;exact this
 ·have hx:=hm m w[m] (by rw[Cac (by omega),caa hlt])
  by_cases h1:m < s.parts.length
  ·have:=m6 h1 (by rw[Ht];exact hlt)
   rw[AX hk w h1 hlt,hx] at this;cases this
  ·exact h1 (SG hx)
 ·have:=m4 he
  rw[YF _ _ _ (by rw[lH,Ht,Lab];omega),Int.zero_mul,lH] at this;unfold Oi;rw[if_pos (by rw[Ht,Lab];omega)];exact this
end
theorem gS{s:Ob}{w:List Nat}(h:mo s w):w.length<=s.parts.length:=by
 rcases Zac w.length with h0 | h0
 ·omega
 ·have:=SG (h (w.length - 1) w[w.length - 1] (caa _))
  omega
theorem AB{s:Ob}{w:List Nat}{n m:Nat}(h:mo s (w.take m))(hn:n<=m):mo s (w.take n):=fun j x hj=>h j x (by
 rw[Rab] at hj ⊢
 split at hj
 ·rw[if_pos (by omega)];exact hj
 ·cases hj)
theorem yY{ss:List Ob}{l:List (List de)}(Ba:Xb ss)(H7:Df ss)(hinj:Gm ss)(ha:ig ss=some l){w:List Nat}(hw:Bytes w)(I7:w≠[]):nm ss (fy w) 0=zu ss l (fy w):=by
 obtain⟨m,hm,hc⟩:=xJ Ba H7 ha w hw;have hbt:∀ n,Bytes (w.take n):=fun n x hx=>hw x (xac hx);have hl:0 < w.length:=Zab.2 I7
 have oad:∀ s∈ss,(iu s.parts (fy w) 0 0).1=s.parts.length->Full s (w.take s.parts.length)/\s.parts.length<=w.length/\Oi s (fy (w.take s.parts.length))=some (iu s.parts (fy w) 0 0).2:=fun s hs he=>by
  obtain⟨n,n1,n2,n3,n4,_,n6⟩:=TE (Ba.ft s hs) w;have:n=s.parts.length:=by omega
  subst this;exact⟨⟨n4,by rw[Lab];omega⟩,n3,n6 rfl⟩
 have B8:∀ s∈ss,∀ n,n<=w.length->mo s (w.take n)->n<=(iu s.parts (fy w) 0 0).1:=fun s hs n hn hmt=>by
  obtain⟨k,k1,k2,k3,k4,k5,k6⟩:=TE (Ba.ft s hs) w;rcases Xaa k n with h | h
  ·exact absurd (AB hmt h) (k5 (by omega))
  ·omega
 have Qab:(∀ s∈ss,¬Full s (w.take m))->(m=w.length\/∀ s∈ss,¬mo s (w.take (m+1)))->(w.take m=[]\/∃ s∈ss,mo s (w.take m))->∀ s∈ss,(iu s.parts (fy w) 0 0).1≠s.parts.length/\(iu s.parts (fy w) 0 0).1<=m:=by
  intro h1 h2 h3 s hs;have hup:(iu s.parts (fy w) 0 0).1<=m:=by
   obtain⟨k,k1,k2,k3,k4,k5,k6⟩:=TE (Ba.ft s hs) w;rcases h2 with h2 | h2
   ·omega
   ·rcases Xaa m k with h | h
    ·exact absurd (AB k4 h) (h2 s hs)
    ·omega
  refine⟨fun he=> ?_,hup⟩;obtain⟨f1,f2,_⟩:=oad s hs he;rcases Xaa s.parts.length m with hlt | hge
  ·rcases h3 with h3 | ⟨t,ht,h3⟩
   ·have:=congrArg List.length h3
    rw[Lab] at this;replace this:min m w.length=0:=this
    have:=(Ba.ft s hs).lo
    omega
   ·have hle:=gS h3
    rw[Lab] at hle;exact gK Ba H7 hs ht (hbt s.parts.length) f1 (AB h3 (Nat.le_of_lt hlt)) (by omega)
  ·have:s.parts.length=m:=by omega
   rw[this] at f1;exact h1 s hs f1
 have hM:(w.take m=[]\/∃ s∈ss,mo s (w.take m))->(∀ s∈ss,(iu s.parts (fy w) 0 0).1<=m)->(0=m\/∃ s∈ss,(iu s.parts (fy w) 0 0).1=m):=by
  rintro (h | ⟨s,hs,h⟩) hle
  ·have:=congrArg List.length h
   rw[Lab] at this;replace this:min m w.length=0:=this
   exact .inl (by omega)
  ·exact .inr ⟨s,hs,Nat.le_antisymm (hle s hs) (B8 s hs m hm h)⟩
 have pai:(w.map fun (n:Nat)=>(n:Int))=fy w:=rfl;rw[pai] at hc;rcases hc with⟨c1,s,hs,hf⟩ | ⟨c1,c2,c3,c4⟩ | ⟨c1,c2,c3,c4,c5⟩
 ·
  obtain⟨i,hi,rfl⟩:=Eab hs;have V7:ss[i].parts.length=m:=by rw[<- hf.2,Lab];omega
  have hgi:(iu ss[i].parts (fy w) 0 0).1=ss[i].parts.length:=by
   have h1:=B8 _ hs m hm hf.1
   obtain⟨k,k1,k2,_⟩:=TE (Ba.ft _ hs) w;omega
  have qai:∀ j (hj:j < ss.length),(iu ss[j].parts (fy w) 0 0).1=ss[j].parts.length->j=i:=fun j hj he=>by
   obtain⟨f1,f2,_⟩:=oad _ (saa hj) he;have h1:¬ss[j].parts.length < ss[i].parts.length:=fun hlt=>gK Ba H7 (saa hj) hs (hbt _) f1 (AB hf.1 (by omega)) hlt
   have h2:¬ss[i].parts.length < ss[j].parts.length:=fun hlt=>gK Ba H7 hs (saa hj) (hbt _) hf (AB f1.1 (by omega)) hlt
   have:ss[j].parts.length=m:=by omega
   rw[this] at f1;exact eR Ba hinj hj hi (hbt m) f1 hf
  rw[bG hi 0 hgi fun j hj hlt he=>by have:=qai j hj he;omega];obtain⟨_,_,hr⟩:=oad _ hs hgi;have hd:Du (fy (w.take m)) ss=some (ss[i].first+(iu ss[i].parts (fy w) 0 0).2):=by
   rw[V7] at hr;refine tR hi hr fun j hj h=> ?_;have hfj:=(tP (Ba.ft _ (saa hj)) _).1 h
   exact eR Ba hinj hj hi (hbt m) hfj hf
  unfold zu;rw[c1,if_pos rfl,Eaa,lH,hd,V7];rfl
 ·
  have ht:w.take m=w:=by rw[c2,Fab]
  have h3:w.take m=[]\/∃ s∈ss,mo s (w.take m):=by rw[ht];exact c3
  have hn:=Qab (by rw[ht];exact c4) (.inl c2) h3;rw[UA hn (Iac _) (hM h3 fun s hs=>(hn s hs).2),if_pos ⟨by omega,by rw[Ht];exact c2⟩];unfold zu;rw[c1,taa (by simp),if_pos rfl,Eaa]
 ·have hn:=Qab c4 (.inr c5) c3
  rw[UA hn (Iac _) (hM c3 fun s hs=>(hn s hs).2),taa (by rw[Ht];omega)];unfold zu;rw[c1,taa (by simp),taa (by simp),Eaa]
theorem EJ{q:List Int}(hr:∀ x∈q,0<=x/\x<=255):fy (q.map Int.toNat)=q:=by
 unfold fy;rw[wad]
 conv=>rhs;rw[<- List.map_id q]
 exact pac fun x hx=>by have:=hr x hx;simp;omega
theorem lE{q:List Int}(hr:∀ x∈q,0<=x/\x<=255):Bytes (q.map Int.toNat):=by
 intro x hx;obtain⟨y,hy,rfl⟩:=oab.1 hx
 have:=hr y hy;omega
section
variable {ss:List Ob}{l:List (List de)}(Ba:Xb ss)(H7:Df ss)(ha:ig ss=some l)
include Ba H7 ha
theorem bF{q:List Int}(hr:∀ x∈q,0<=x/\x<=255){st:Int}(hs:stays l 0 q=some st):q.length < 8:=by
 have hm:=Ny [] hs (i:=0);rw[Kab,eab,Mg] at hm;obtain⟨m,_,hc⟩:=xJ Ba H7 ha (q.map Int.toNat) (lE hr);have hq:((q.map Int.toNat).map fun (n:Nat)=>(n:Int))=q:=EJ hr;rw[hq,hm] at hc;have hlen:(q.map Int.toNat).length=q.length:=paa ..
 rcases hc with⟨c1,_⟩ | ⟨c1,c2,c3,c4⟩ | ⟨c1,_⟩
 ·simp at c1
 ·rcases c3 with c3 | ⟨s,hs,c3⟩
  ·have:=congrArg List.length c3
   rw[hlen] at this;simp at this;simp[this]
  ·have h1:=gS c3
   have h2:=(Ba.ft s hs).hi
   have h3:(q.map Int.toNat).length≠s.parts.length:=fun h=>c4 s hs ⟨c3,h⟩
   omega
 ·simp at c1
omit Ba H7 ha in
theorem LJ:∀ {a b:List Int}{st st':Int},stays l st a=some st'->stays l st (a++b)=stays l st' b
 | [],b,st,st',h=>by injection h with h;subst h;rfl
 |x::a,b,st,st',h=>by
  rw[stays] at h
  split at h
  ·cases h
  ·next hn=>rw[fab,stays,taa hn];exact LJ h
theorem bQ{q:List Int}(hr:∀ x∈q,0<=x/\x<=255)(hs:stays l 0 q=some 0):q=[]:=by
 have Vaf:∀ n,stays l 0 (List.replicate n q).flatten=some 0:=by
  intro n
  induction n with
  |zero=>rfl
  |succ n ih=>rw[List.replicate_succ,aac,LJ hs];exact ih
 have:=bF Ba H7 ha (q:=(List.replicate 8 q).flatten) (fun x hx=>by
  obtain⟨y,hy,hxy⟩:=Lae.1 hx
  rw[Fad hy] at hxy;exact hr x hxy) (Vaf 8)
 have hl:(List.replicate 8 q).flatten.length=8 * q.length:=by simp;omega
 exact yaa (by omega)
end
section
variable (ss:List Ob)(l:List (List de))
theorem Q1{bs:List Int}(h:(zu ss l bs).kind=3):zu ss l bs=⟨3,bs.length,0⟩:=by
 obtain⟨k,k1,k2,k3⟩:=VC l bs 0 0;unfold zu at h ⊢;rcases k3 with⟨a,b⟩ | ⟨a,b⟩ | ⟨a,b⟩ <;> rw[a] at h ⊢ <;> simp at h ⊢
 omega
theorem Nv:∀ (n:Nat)(bs:List Int),bs.length<=n->ct ss l bs=(nf ss l bs).1++(if (nf ss l bs).2=[] then [] else [⟨3,(nf ss l bs).2.length,0⟩])/\
 (((nf ss l bs).1.map (·.size)).sum+(nf ss l bs).2.length=bs.length)/\(nf ss l bs).2=bs.drop ((nf ss l bs).1.map (·.size)).sum/\(∀ e∈(nf ss l bs).1,e.kind≠3)/\(nf ss l bs).1.length+(nf ss l bs).2.length<=bs.length
 |0,bs,h=>by have:bs=[]:=yaa (by omega);subst this;rw[mz ss l (.inl rfl)];simp[nC]
 |n+1,bs,h=>by
  by_cases h1:bs=[]
  ·subst h1
   rw[mz ss l (.inl rfl)];simp[nC]
  ·by_cases h3:(zu ss l bs).kind=3
   ·rw[mz ss l (.inr h3),YC ss l h1,Q1 ss l h3]
    simp[h1,nC]
   ·have hs:=cv ss l h1
    obtain⟨i1,i2,i3,i4,i5⟩:=Nv n (bs.drop (zu ss l bs).size) (by rw[Pab];omega);rw[Ap ss l h1 h3,YC ss l h1,i1];rw[Pab] at i2 i5;refine⟨rfl,by simp only[pab,List.sum_cons];omega,by simp only[pab,List.sum_cons];rw[<- List.drop_drop];exact i3,fun e he=> ?_,by simp only[Raa];omega⟩;rcases bab.1 he with rfl | he
    ·exact h3
    ·exact i4 e he
end
def iS(k:Nat)(f:St->Option (Ex×St))(Q:Ex×St->Prop):Ex×St->Prop
 | (.goto j,s)=>if j=k then qd Q (iG (f s)) else False
 |r=>Q r
theorem yX{Q:Ex×St->Prop}{k:Nat}{f:St->Option (Ex×St)}{r:Option (Ex×St)}:qd Q (yv k f r)=qd (iS k f Q) r:=by
 rcases r with _ | ⟨ex,s⟩
 ·rfl
 ·cases ex with
  |goto j=>show qd Q (if j=k then _ else _)=(if j=k then _ else _);by_cases h:j=k <;> simp[h,qd]
  |_=>rfl
def J2(Q:Ex×St->Prop):Ex×St->Prop
 | (.goto _,_)=>False
 |r=>Q r
theorem X1{Q:Ex×St->Prop}{r:Option (Ex×St)}:qd Q (iG r)=qd (J2 Q) r:=by
 rcases r with _ | ⟨ex,s⟩
 ·rfl
 ·cases ex <;> rfl
theorem CU{Q:Ex×St->Prop}{s:St}:J2 Q (.ret,s)=Q (.ret,s):=rfl
theorem JI{k:Nat}{f:St->Option (Ex×St)}{Q:Ex×St->Prop}{s:St}:iS k f Q (.ret,s)=Q (.ret,s):=rfl
theorem mY{k:Nat}{f:St->Option (Ex×St)}{Q:Ex×St->Prop}{s:St}:iS k f Q (.goto k,s)=qd Q (iG (f s)):=by simp[iS]
section
variable {T:PV}{ss:List Ob}{l:List (List de)}(hT:Uo T ss l)(Ba:Xb ss)(ho:∀ e∈l,sj e)
variable {call call':Sa}{A:List ba}{d c:Nat}(hA:Vd A)(h2:eZ A d c){bad Jc:Int}{ya fin:Bool}
 (h89:∀ H (k:Int),call 89 [.ptr d 0,.pv (i64 k)] H=ef call' Yb [.ptr d 0,.pv (i64 k)] H)
 (h81:∀ H (x:Int),call 81 [.ptr c 0,.pv (u8 x)] H=ef call' xe [.ptr c 0,.pv (u8 x)] H)
 {call'':Sa} (h82:∀ H (n:Int),call' 82 [.ptr c 0,.pv (i64 n)] H=ef call'' Nc [.ptr c 0,.pv (i64 n)] H) (h83:∀ H,call' 83 [.ptr c 0] H=ef call'' Dc [.ptr c 0] H)
include hT Ba hA h2 h89 h82 h83 h81 ho
theorem xY{st:Int}{at_:Nat}(Y8:at_<=900000){buf q:List Int}{h:Nat}(hq:eo buf h q)(hl:q.length < 8)(hs:stays l 0 q=some st)(hz:st=0↔q=[]){x:Int}(hx:0<=x/\x<=255){X:List ba}(hX:Still X){B:List Kv×List Int}(hB:B=El ss l (bad==3) q st x):
 qd (fun r=>∃ (nl:Bool)(buf':List Int)(h':Nat)(st':Int)(Y:List ba),r=(.uq (A.length+X.length) nl 5 (Oc at_ B.1),Sl A d c (Lc T bad c st' ((at_+(B.1.map (·.size)).sum:Nat):Int) Jc ya fin) (We buf' 8 h' B.2.length) (X++Y))/\eo buf' h' B.2/\stays l 0 B.2=some st'/\Still Y/\(nl=true->B.1=[])/\Y≠[])
  (ef call Le [.ptr d 0,.pv (u8 x)] (Sl A d c (Lc T bad c st at_ Jc ya fin) (We buf 8 h q.length) X)):=by
 have gh:∀ E:Tr,E.get 5= .pv .ga->∀ o1 o2,fe (.DA 5 5) ⟨E,Sl A d c o1 o2 X⟩=some ⟨E.set 5 (.uq (A.length+X.length) true 5 []),jw A d c o1 o2 X ([]:List PV).length true []⟩:=fun E h o1 o2=>by simp only[fe,h,sm,Ot];rfl
 unfold El at hB;have hj:=fun (st:Int)(at_:Nat)(Y8:at_<=1000000)(buf q:List Int)(h:Nat)(hq:eo buf h q)(hl:q.length < 8)(h0:(Nd l st x).2=true\/st=0)(es:List PV)(hes:es.length<=1000000000)(nl:Bool)(Y:List ba)(hY:Still Y)(E:Tr)(g0:E.get 0= .ptr d 0)(g1:E.get 1= .pv (u8 x))(g5:E.get 5= .uq (A.length+X.length) nl 5 es)=>TT hT Ba ho hA h2 h89 h81 h82 h83 (bad:=bad) (Jc:=Jc) (ya:=ya) (fin:=fin) Y8 hq hl hx h0 hX hes hY g0 g1 g5 rfl;have hjh:=fun (hg:(Nd l st x).2=false/\st≠0)(E:Tr)(g0:E.get 0= .ptr d 0)(g1:E.get 1= .pv (u8 x))(g5:E.get 5= .uq (A.length+X.length) true 5 [])=>kU hT Ba ho hA h2 h89 h82 h83 (bad:=bad) (Jc:=Jc) (ya:=ya) (fin:=fin) (at_:=at_) (by omega) hq hx hg hX (es:=[]) (by simp) (nl:=true) (Y:=[]) Still.nil g0 g1 g5
 generalize hQ:(fun r:AV×List ba=>∃ nl buf' h' st' Y,r=_/\_)=Q;simp -implicitDefEqProofs only[SX,sevalprocAttr,Le,ZY,yX,DB,gh,Tr.aa]
 by_cases hg:(Nd l st x).2=false/\st≠0
 ·have fal:q≠[]:=fun h=>hg.2 (hz.2 h)
  rw[taa (by rw[hg.1];simp),taa fal] at hB;refine wa (hjh hg _ (by simp[Tr.aa]) (by simp[Tr.aa]) (by simp[Tr.aa])) ?_;rintro r ⟨E',Y',gag,h1,rfl,r4,r5,r0,r1,rY,rq⟩
  by_cases h3:bad=3
  ·have e3:(bad==3)=true:=by rw[h3];rfl
   rw[if_pos h3];rw[e3,if_pos rfl] at hB;subst hB;simp -implicitDefEqProofs only[SX,sevalprocAttr,JI,r4 h3];subst hQ;exact⟨false,gag,h1,0,.tok 5 1 false::Y',by simp[jw,Oc],rq,rfl,(Still.tok 5 1 false).cons rY,fun h=>(by cases h),by simp⟩
  ·have e3:(bad==3)=false:=beq_false_of_ne h3
   rw[taa h3];rw[e3,taa (by simp)] at hB;simp -implicitDefEqProofs only[SX,sevalprocAttr,mY,X1];have e9:(Nd l 0 x).2=true\/(0:Int)=0:= .inr rfl
   have hj2:=hj 0 (at_+q.length) (by omega) gag [] h1 rq (by simp) e9 [ah ⟨2,q.length,0⟩ at_] (by simp) false Y' rY E' r0 r1 r5;refine wa (show qd _ (oa call Wb ⟨E',jw A d c (Lc T bad c 0 ((at_+q.length:Nat):Int) Jc ya fin) (We gag 8 h1 0) X 1 false Y'⟩) from hj2) ?_;rintro r ⟨E2,nl2,gal,h2',Y2,rfl,u4,uq,uY,un⟩;have h2n:nl2=false:=by cases nl2 with | false=>rfl | true=>exact absurd (un rfl).1 (by simp)
   simp -implicitDefEqProofs only[SX,sevalprocAttr,CU,u4];subst hQ;subst h2n;have hb0:aA ss l x=((bq ss l [] 0 x).1,(bq ss l [] 0 x).2.1):=by
    unfold aA bq
    repeat' split
    all_goals first | rfl | contradiction
   have iag:stays l 0 (bq ss l [] 0 x).2.1=some (bq ss l [] 0 x).2.2:=by
    unfold bq
    split
    ·next h1=>
     split
     ·rfl
     ·next h2=>rw[cab,stays,taa (by rw[h1];simp[h2]),stays]
    ·rfl
   rw[hb0] at hB;subst hB;have ha1:at_+q.length+((bq ss l [] 0 x).1.map (·.size)).sum=at_+(((⟨2,q.length,0⟩:Kv)::(bq ss l [] 0 x).1).map (·.size)).sum:=by simp;omega
   refine⟨false,gal,h2',_,.tok 5 ((Oc (at_+q.length) (bq ss l [] 0 x).1).length+1) false::Y2,?_,uq,iag,(Still.tok 5 _ false).cons uY,fun h=>(by cases h),by simp⟩;rw[ha1];rfl
 ·have h0:(Nd l st x).2=true\/st=0:=by
   cases hc:(Nd l st x).2 with
   |true=>exact .inl rfl
   |false=>exact .inr (eae fun h=>hg ⟨hc,h⟩)
  refine wa (hj st at_ (by omega) buf q h hq hl h0 [] (by simp) true [] Still.nil _ (by simp[Tr.aa]) (by simp[Tr.aa]) (by simp[Tr.aa])) ?_;rintro r ⟨E',nl',buf',h',Y',rfl,r4,rq,rY,rn⟩;simp -implicitDefEqProofs only[SX,sevalprocAttr,JI,r4];subst hQ;have hb:B=((bq ss l q st x).1,(bq ss l q st x).2.1):=by
   rw[hB];unfold bq
   by_cases h1:(Nd l st x).2=true
   ·rw[if_pos h1,if_pos h1]
    by_cases h2:(Nd l st x).1= -1
    ·rw[if_pos h2,if_pos h2]
    ·rw[taa h2,taa h2]
   ·have hq0:=hz.1 (h0.resolve_left h1)
    rw[taa h1,taa h1,if_pos hq0,hq0];rfl
  have iag:stays l 0 (bq ss l q st x).2.1=some (bq ss l q st x).2.2:=by
   unfold bq
   split
   ·next h1=>
    split
    ·rfl
    ·next h2=>exact WA hs h1 h2
   ·rfl
  rw[hb];exact⟨nl',buf',h',_,.tok 5 _ nl'::Y',rfl,rq,iag,(Still.tok 5 _ nl').cons rY,fun h=>(rn h).2,by simp⟩
end
theorem OT{ss:List Ob}{l:List (List de)}{h:List Int}{st x:Int}(hb:(El ss l true h st x).1.any Iq=true):(El ss l true h st x).1.length=1:=by
 unfold El at hb ⊢
 repeat' split
 all_goals first | rfl | (simp_all [Iq])
theorem gU{ss:List Ob}{l:List (List de)}{s:Bool}{h:List Int}{st x:Int}:(El ss l s h st x).1.length<=2/\(El ss l s h st x).2.length<=h.length+1/\((El ss l s h st x).1.map (·.size)).sum+(El ss l s h st x).2.length<=h.length+1/\∀ y∈(El ss l s h st x).2,y∈h\/y=x:=by
 unfold El aA
 repeat' split
 all_goals simp
 all_goals first | omega | skip
def F2(k a n u:Int):ba:= .box ((Qo k a n u).map .pv)
section
variable {call:Sa}{A:List ba}{d c:Nat}(hA:Vd A)(h2:eZ A d c){T:PV}{bad st at_ Jc:Int}{fin:Bool}{buf:List Int}{h m:Int}{X:List ba}(hX:Still X)
include hA h2 hX
theorem gP{evs:List Kv}{p:Nat}(R7:bad=3->evs.any Iq=true->evs.length=1)(hlen:evs.length<=2){out:List PV}(y8:out.length<=1000000000){nl nl2:Bool}{Y:List ba}(hY:Still Y){B:AV}{n i:Int}{id2:Nat}(G7:id2 < A.length+X.length+1+Y.length)(hkB:AV.ie (A.length+X.length+1+Y.length) deep B=true)
 {E0:Tr} (g0:E0.get 0= .ptr d 0) (g7:E0.get 7= .uq (A.length+X.length) nl 5 out) (g38:E0.get 38=B) (g39:E0.get 39= .pv (i64 n)) (g40:E0.get 40= .pv (i64 i)) (g46:E0.get 46= .uq id2 nl2 5 (Oc p evs)) (g47:E0.get 47= .pv (i64 evs.length)) (g48:E0.get 48= .pv (i64 0)):
 qd (fun r=>r.1.stop=true/\∃ E nl' Y',r=(if bad=3/\evs.any Iq=true then .exit 0 else .exit 2,⟨E,jw A d c (Lc T bad c st at_ Jc (decide (bad=3/\evs.any Iq=true)) fin) (We buf 8 h m) X (out++Oc p evs).length nl' Y'⟩)/\Still Y'/\E.get 0= .ptr d 0/\E.get 7= .uq (A.length+X.length) nl' 5 (out++Oc p evs)/\E.get 38=B/\E.get 39= .pv (i64 n)/\E.get 40= .pv (i64 i)/\(nl'=true->nl=true/\evs=[]))
  (oa call (.loop [0,7,38,39,40,46,47,48] Ke) ⟨E0,jw A d c (Lc T bad c st at_ Jc false fin) (We buf 8 h m) X out.length nl Y⟩):=by
 obtain⟨K,hK⟩:∃ K:ba->Nat->Bool->List ba->List ba,K=fun o1 m' nl Y=>jw A d c o1 (We buf 8 h m) X m' nl Y:=⟨_,rfl⟩;have hK':∀ o1 m' nl Y,jw A d c o1 (We buf 8 h m) X m' nl Y=K o1 m' nl Y:=fun o1 m' nl Y=>by rw[hK]
 have gd:∀ o1 m' nl Y,(K o1 m' nl Y)[d]? =some o1:=fun o1 m' nl Y=>by rw[hK];exact cE h2
 have sd:∀ o1 m' nl Y o,(K o1 m' nl Y).set d o=K o m' nl Y:=fun o1 m' nl Y o=>by rw[hK];exact sF h2
 have kl:∀ o1 m' nl Y,(K o1 m' nl Y).length=A.length+X.length+1+Y.length:=fun o1 m' nl Y=>by rw[hK];show (Sl _ _ _ _ _ _).length=_;rw[sm];simp;omega
 have kx:∀ o1 m' nl Y Z,K o1 m' nl Y++Z=K o1 m' nl (Y++Z):=fun o1 m' nl Y Z=>by rw[hK];show Sl _ _ _ _ _ _++_=Sl _ _ _ _ _ _;rw[Ot,Oab];rfl
 have kg:∀ sp m' nl Y,Still Y->Vd (K (Lc T bad c st at_ Jc sp fin) m' nl Y):=fun sp m' nl Y hY=>by rw[hK];exact Yy hA h2 (hX.jw hY)
 have kbx:∀ o1 m' nl Y r,(K o1 m' nl (Y++[.box (List.map AV.pv r)]))[A.length+X.length+1+Y.length]? =some (.box (r.map .pv)):=fun o1 m' nl Y r=>by rw[<- kx,Paa (by rw[kl];exact waa _),kl,uad];rfl
 have kbs:∀ o1 m' nl Y r r',(K o1 m' nl (Y++[.box (List.map AV.pv r)])).set (A.length+X.length+1+Y.length) (.box (r'.map .pv))=K o1 m' nl (Y++[.box (List.map AV.pv r')]):=fun o1 m' nl Y r r'=>by rw[<- kx,Xab _ _ (by rw[kl];exact waa _),kl,uad,<-kx];rfl
 have pd:∀ sp m' nl Y k,place (K (Lc T bad c st at_ Jc sp fin) m' nl Y) k (.ptr d 0)=some (.ptr d k):=fun sp m' nl Y k=>HF (gd _ _ _ _) k;have ldd:=fun sp m' nl Y=>tA (gd (Lc T bad c st at_ Jc sp fin) m' nl Y);have s6:∀ sp m' nl Y (v:Bool),Ha (K (Lc T bad c st at_ Jc sp fin) m' nl Y) 1 (.ptr d 6) (.pv (.bool v))=some (K (Lc T bad c st at_ Jc v fin) m' nl Y):=fun sp m' nl Y v=>by rw[T5 (gd _ _ _ _),sd]
 simp only[hK'];refine xo (σ:=Nat×List PV×Bool) (fun x=>[(0,.ptr d 0),(7,.uq (A.length+X.length) x.2.2 5 x.2.1),(38,B),(39,.pv (i64 n)),(40,.pv (i64 i)),(46,.uq id2 nl2 5 (Oc p evs)),(47,.pv (i64 evs.length)),(48,.pv (i64 x.1))])
  (fun x=>K (Lc T bad c st at_ Jc false fin) x.2.1.length x.2.2 Y) (fun k x=>x.1=k/\x.2.1=out++(Oc p evs).take k/\(x.2.2=true->nl=true/\k=0)/\(bad=3->evs.any Iq=true->k=0)) evs.length (by unfold ua;omega) (fun _=>rfl) ?_ ?_ ?_ ?_
 ·rintro k x _
  rw[kl,kl];have:=h2.ld
  exact⟨by simp[vj,Zn,wz,G7,hkB,show d < A.length+X.length+1+Y.length by omega,show A.length+X.length < A.length+X.length+1+Y.length by omega],fun o ho=>kg _ _ _ _ hY _ (by rw[kl];exact waa _) o ho,rfl⟩
 ·exact⟨(0,out,nl),⟨g0,g7,g38,g39,g40,g46,g47,g48,trivial⟩,rfl,rfl,by simp,fun h=>⟨h,rfl⟩,fun _ _=>rfl⟩
 ·rintro _ ⟨k,acc,nl'⟩ E hi ⟨rfl,zaa,Y7,W7⟩ ⟨g0,g7,g38,g39,g40,g46,g47,g48,_⟩
  simp only at hi zaa Y7 W7 g0 g7 g38 g39 g40 g46 g47 g48;obtain⟨pl,E7⟩:=FF p evs k hi;have hL:(Oc p evs).length=evs.length:=Xf p evs
  have Z7:(Oc p evs).take (k+1)=(Oc p evs).take k++[ah evs[k] pl]:=by rw[Fae,E7];rfl
  have A9:evs[k].kind=2->evs.any Iq=true:=fun h=>Vad.2 ⟨_,saa hi,by simp[Iq,h]⟩
  have hnb:bad=3->evs[k].kind≠2->evs.any Iq=false:=fun h3 D8=>by
   cases hb:evs.any Iq with
   |false=>rfl
   |true=>
    have h1:=R7 h3 hb
    match evs,h1,hi,D8,hb,W7 h3 hb with
    | [e],_,hi,D8,hb,hk0=>subst hk0;simp[Iq] at hb D8;exact absurd hb D8
  have hal:acc.length<=1000000002:=by rw[zaa,Aaa,Lab];omega
  have e1:decide ((k:Int) < (evs.length:Int))=true:=Ea (by omega);have t1:IntKind.i64.wrap ((k:Int)+1)=((k+1:Nat):Int):=sg (by omega)
  have a1:∀ H,ta H 5 (.uq id2 nl2 5 (Oc p evs)) (k:Int)=some (.pv (.rp (Qo evs[k].kind pl evs[k].size evs[k].u) 0)):=fun H=>by simp only[ta];rw[if_pos ⟨trivial,by unfold Ia;omega⟩,Eaa,E7];rfl
  have a2:∀ H,pa H true 5 (.pv (.rp (Qo evs[k].kind pl evs[k].size evs[k].u) 0))=some (.pv (ah evs[k] pl)):=fun H=>rfl;have hz:∀ o1 m' nl,K o1 m' nl Y++[.box [.pv (.int .i64 0),.pv (.int .i64 0),.pv (.int .i64 0),.pv (.int .i64 0),.pv (.int .i64 0)]]=K o1 m' nl (Y++[F2 0 0 0 0]):=fun o1 m' nl=>kx o1 m' nl Y _;have sT:∀ m' nl,Ha (K (Lc T bad c st at_ Jc false fin) m' nl (Y++[F2 0 0 0 0])) 5 (.ptr (A.length+X.length+1+Y.length) 0) (.pv (ah evs[k] pl))=some (K (Lc T bad c st at_ Jc false fin) m' nl (Y++[F2 evs[k].kind pl evs[k].size evs[k].u])):=fun m' nl=>by have:=oK (b:=Qo evs[k].kind pl evs[k].size evs[k].u) (kbx (Lc T bad c st at_ Jc false fin) m' nl Y (Qo 0 0 0 0)) rfl rfl eK;rw[kbs] at this;exact this
  have lT:∀ m' nl,pa (K (Lc T bad c st at_ Jc false fin) m' nl (Y++[F2 evs[k].kind pl evs[k].size evs[k].u])) true 5 (.ptr (A.length+X.length+1+Y.length) 0)=some (.pv (ah evs[k] pl)):=fun m' nl=>SK (kbx _ _ _ _ _) rfl;have pe:∀ m' nl j,place (K (Lc T bad c st at_ Jc false fin) m' nl (Y++[F2 evs[k].kind pl evs[k].size evs[k].u])) j (.ptr (A.length+X.length+1+Y.length) 0)=some (.ptr (A.length+X.length+1+Y.length) j):=fun m' nl j=>Yv (kbx _ _ _ _ _) j;have l0:∀ m' nl,pa (K (Lc T bad c st at_ Jc false fin) m' nl (Y++[F2 evs[k].kind pl evs[k].size evs[k].u])) false 1 (.ptr (A.length+X.length+1+Y.length) 0)=some (.pv (i64 evs[k].kind)):=fun m' nl=>xr (kbx _ _ _ _ _) rfl;have ap:∀ Y e,Cb (K (Lc T bad c st at_ Jc false fin) acc.length nl' Y) false .uq 5 true 40 (.uq (A.length+X.length) nl' 5 acc) (.pv (.lit 5 [e]))=some (.uq (A.length+X.length) false 5 (acc++[e]),K (Lc T bad c st at_ Jc false fin) (acc++[e]).length false Y):=fun Y e=>by rw[hK];exact UQ e rfl (by omega)
  have bsl:∀ (e:Kv)(a:Int)(H:List ba),((if (List.map AV.pv (ah e a).cells).length=5/\(List.map AV.pv (ah e a).cells).all AV.one=true then some (fa [AV.pv (PV.int IntKind.i64 0),AV.pv (PV.int IntKind.i64 0),AV.pv (PV.int IntKind.i64 0),AV.pv (PV.int IntKind.i64 0),AV.pv (PV.int IntKind.i64 0)] 0 (List.map AV.pv (ah e a).cells)) else none).bind fun cs=>
   if cs.all AV.one=true then Option.map (fun ps=>(AV.pv (PV.lit 5 [PV.agg (List.take 5 ps)]),H)) (Tc cs) else none)=some (.pv (.lit 5 [ah e a]),H):=fun e a H=>rfl
  have hYb:=hY.app (Still.box (Qo evs[k].kind pl evs[k].size evs[k].u))
  clear hK hK' gd sd kbx kbs;generalize evs[k]=e at *;generalize hQ:RH _ _ _ _=Q
  by_cases D8:e.kind=2
  ·have e2:(e.kind==2)=true:=by rw[D8];rfl
   by_cases h3:bad=3
   ·have e3:(bad==3)=true:=by rw[h3];rfl
    simp -implicitDefEqProofs only[SX,sevalprocAttr,Ke,g0,g7,g38,g39,g40,g46,g47,g48,e1,a1,a2,hz,kl,sT,lT,bsl,ap,pe,l0,e2,pd,ldd,e3,s6];subst hQ;have hk0:=W7 h3 (A9 D8);have h1:=R7 h3 (A9 D8);subst hk0;have hw:acc++[ah e pl]=out++Oc p evs:=by
     rw[zaa,Oab]
     congr 1
     rw[<- Z7,Zaa (by omega)]
    rw[if_pos ⟨h3,A9 D8⟩,decide_eq_true ⟨h3,A9 D8⟩,<-hw];exact⟨_,false,_,rfl,hYb,by simp[Tr.aa,g0],by simp[Tr.aa],by simp[Tr.aa,g38],by simp[Tr.aa,g39],by simp[Tr.aa,g40],fun h=>by cases h⟩
   ·have e3:(bad==3)=false:=beq_false_of_ne h3
    simp -implicitDefEqProofs only[SX,sevalprocAttr,Ke,g0,g7,g38,g39,g40,g46,g47,g48,e1,a1,a2,hz,kl,sT,lT,bsl,ap,pe,l0,e2,pd,ldd,e3,t1];subst hQ;exact⟨(k+1,acc++[ah e pl],false),[F2 e.kind pl e.size e.u],by simp[Has,Tr.aa,g0,g38,g39,g40,g46,g47],(kx _ _ _ _ _).symm,rfl,by rw[Z7,zaa,Oab],(fun h=>by cases h),fun h=>absurd h h3⟩
  ·have e2:(e.kind==2)=false:=beq_false_of_ne D8
   simp -implicitDefEqProofs only[SX,sevalprocAttr,Ke,g0,g7,g38,g39,g40,g46,g47,g48,e1,a1,a2,hz,kl,sT,lT,bsl,ap,pe,l0,e2,pd,ldd,t1];subst hQ;exact⟨(k+1,acc++[ah e pl],false),[F2 e.kind pl e.size e.u],by simp[Has,Tr.aa,g0,g38,g39,g40,g46,g47],(kx _ _ _ _ _).symm,rfl,by rw[Z7,zaa,Oab],(fun h=>by cases h),fun h3 h=>by rw[hnb h3 D8] at h;cases h⟩
 ·rintro⟨k,acc,nl'⟩ E ⟨hk,zaa,Y7,W7⟩ ⟨g0,g7,g38,g39,g40,g46,g47,g48,_⟩
  simp only at hk zaa Y7 W7 g0 g7 g38 g39 g40 g46 g47 g48 ⊢;subst hk;have hL:(Oc p evs).length=evs.length:=Xf p evs
  rw[Zaa (by omega)] at zaa;have hno:¬(bad=3/\evs.any Iq=true):=fun h=>by
   have:=W7 h.1 h.2
   have:=R7 h.1 h.2
   omega
  rw[taa hno,decide_eq_false hno];have e1:decide ((evs.length:Int) < (evs.length:Int))=false:=Ga (by omega);generalize hQ:(fun r:Ex×St=>r.1.stop=true/\_)=Q;simp -implicitDefEqProofs only[SX,sevalprocAttr,Ke,g47,g48,e1];subst hQ;subst zaa;exact⟨rfl,_,nl',Y,rfl,hY,by simp[Tr.aa,g0],by simp[Tr.aa,g7],by simp[Tr.aa,g38],by simp[Tr.aa,g39],by simp[Tr.aa,g40],fun h=>⟨(Y7 h).1,yaa (Y7 h).2⟩⟩
end
def xz(l:List Kv):Nat:=(l.map (·.size)).sum
theorem pK(a b:List Kv):xz (a++b)=xz a+xz b:=by simp[xz]
structure mI(U:AV)(bs:List Int)(n0:Nat):Prop where
 len:∀ H,Tb H 0 U=some bs.length
 V4:∀ H (i:Nat) (h:i < bs.length),ta H 1 U (i:Int)=some (.pv (.rp [u8 bs[i]] 0))
 ie:∀ n,n0<=n->AV.ie n deep U=true
 By:∀ b∈bs,0<=b/\b<=255
theorem mI.of{B:PV}{bs:List Int}(h:lk B bs)(n0:Nat):mI (.pv B) bs n0:=⟨h.Tb,fun H i hi=>h.Pd hi H,fun n _=>vj B,h.By⟩
theorem mI.uq{bs:List Int}(hr:∀ b∈bs,0<=b/\b<=255){id n0:Nat}(nl:Bool)(h:id < n0):mI (.uq id nl 1 (bs.map u8)) bs n0:=by
 refine⟨fun H=>by simp[Tb],fun H i hi=> ?_,fun n hn=>wz (by omega),hr⟩;simp only[ta];rw[if_pos ⟨trivial,by unfold Ia;rw[paa];omega⟩,Eaa,Faa,caa hi];rfl
section
variable {T:PV}{ss:List Ob}{l:List (List de)}(hT:Uo T ss l)(Ba:Xb ss)(ho:∀ e∈l,sj e)(H7:Df ss)(ha:ig ss=some l)
variable {call call' call'' call3:Sa}{A:List ba}{d c:Nat}(hA:Vd A)(h2:eZ A d c){bad Jc:Int}{ya fin:Bool}
 (h90:∀ H (x:Int),call 90 [.ptr d 0,.pv (u8 x)] H=ef call' Le [.ptr d 0,.pv (u8 x)] H)
 (h89:∀ H (k:Int),call' 89 [.ptr d 0,.pv (i64 k)] H=ef call'' Yb [.ptr d 0,.pv (i64 k)] H)
 (h81:∀ H (x:Int),call' 81 [.ptr c 0,.pv (u8 x)] H=ef call'' xe [.ptr c 0,.pv (u8 x)] H)
 (h82:∀ H (n:Int),call'' 82 [.ptr c 0,.pv (i64 n)] H=ef call3 Nc [.ptr c 0,.pv (i64 n)] H) (h83:∀ H,call'' 83 [.ptr c 0] H=ef call3 Dc [.ptr c 0] H)
include hT Ba ho H7 ha hA h2 h90 h89 h81 h82 h83
theorem iP{a0:Nat}(ha0:a0<=65536){B:AV}{bs:List Int}(hB:mI B bs A.length)(hbs:bs.length<=65536){X:List ba}(hX:Still X){OE q0:List Int}{h0:Nat}{st0:Int}(hq0:eo OE h0 q0)(hs0:stays l 0 q0=some st0)
 {E0:Tr} (g0:E0.get 0= .ptr d 0) (g7:E0.get 7= .uq (A.length+X.length) true 5 []) (g38:E0.get 38=B) (g39:E0.get 39= .pv (i64 bs.length)) (g40:E0.get 40= .pv (i64 0)):
 qd (fun r=>r.1.stop=true/\∃ (E:Tr)(nl:Bool)(Y:List ba)(buf q:List Int)(h:Nat)(st:Int)(out:List Kv)(sp:Bool),r=(.exit 0,⟨E,jw A d c (Lc T bad c st ((a0+xz out:Nat):Int) Jc sp fin) (We buf 8 h q.length) X (Oc a0 out).length nl Y⟩)/\E.get 7= .uq (A.length+X.length) nl 5 (Oc a0 out)/\Still Y/\eo buf h q/\stays l 0 q=some st/\
  Dl ss l (bad==3) q0 bs=(out,q,sp)/\(nl=true->out=[]))
  (oa call (.loop [0,7,38,39,40] yh) ⟨E0,jw A d c (Lc T bad c st0 a0 Jc false fin) (We OE 8 h0 q0.length) X 0 true []⟩):=by
 have hlB:=hB.len
 have hq8:=bF Ba H7 ha hq0.By hs0
 refine xo (σ:=Nat×List Int×Nat×List Int×Int×List Kv×Bool) (fun x=>[(0,.ptr d 0),(7,.uq (A.length+X.length) x.2.2.2.2.2.2 5 (Oc a0 x.2.2.2.2.2.1)),(38,B),(39,.pv (i64 bs.length)),(40,.pv (i64 x.1))])
  (fun x=>jw A d c (Lc T bad c x.2.2.2.2.1 ((a0+xz x.2.2.2.2.2.1:Nat):Int) Jc false fin) (We x.2.1 8 x.2.2.1 x.2.2.2.1.length) X (Oc a0 x.2.2.2.2.2.1).length x.2.2.2.2.2.2 [])
  (fun k x=>x.1=k/\eo x.2.1 x.2.2.1 x.2.2.2.1/\stays l 0 x.2.2.2.1=some x.2.2.2.2.1/\Dl ss l (bad==3) q0 bs=(x.2.2.2.2.2.1++(Dl ss l (bad==3) x.2.2.2.1 (bs.drop k)).1,(Dl ss l (bad==3) x.2.2.2.1 (bs.drop k)).2)/\(x.2.2.2.2.2.2=true->x.2.2.2.2.2.1=[])/\xz x.2.2.2.2.2.1+x.2.2.2.1.length<=q0.length+k/\x.2.2.2.2.2.1.length<=2 * k)
  bs.length (by unfold ua;omega) (fun _=>rfl) ?_ ?_ ?_ ?_
 ·rintro k x _
  have hl:∀ o1 o2 n nl,(jw A d c o1 o2 X n nl []).length=A.length+X.length+1:=fun o1 o2 n nl=>by unfold jw;rw[sm];simp;omega
  rw[hl,hl];have:=h2.ld
  exact⟨by simp[vj,Zn,wz,hB.ie (A.length+X.length+1) (by omega),show d < A.length+X.length+1 by omega,show A.length+X.length < A.length+X.length+1 by omega],fun o ho'=>Yy hA h2 (hX.jw Still.nil) _ (by rw[sm];simp;omega) o ho',rfl⟩
 ·exact⟨(0,OE,h0,q0,st0,[],true),⟨g0,g7,g38,g39,g40,trivial⟩,rfl,rfl,hq0,hs0,rfl,fun _=>rfl,by simp[xz],waa _⟩
 ·rintro _ ⟨i,buf,h,q,st,out,nl⟩ E hi ⟨rfl,hq,hs,hf,Y7,K7,hol⟩ ⟨g0,g7,g38,g39,g40,_⟩
  simp only at hi hq hs hf Y7 K7 hol g0 g7 g38 g39 g40;have ial:=bF Ba H7 ha hq.By hs
  have hx:=hB.By _ (saa hi)
  have hz:st=0↔q=[]:=⟨fun h=>bQ Ba H7 ha hq.By (by rw[hs,h]),fun h=>by subst h;injection hs with hs;exact hs.symm⟩;have e1:decide ((i:Int) < (bs.length:Int))=true:=Ea (by omega);have t1:IntKind.i64.wrap ((i:Int)+1)=((i+1:Nat):Int):=sg (by omega)
  have hia:=fun H=>hB.V4 H i hi
  rw[Waa hi,Dl,hs,aad] at hf;generalize bs[i]=x at *;have hX1:Still (X++[.tok 5 (Oc a0 out).length nl]):=hX.app (Still.tok _ _ _)
  obtain⟨Bt,hBt⟩:∃ Bt,Bt=El ss l (bad==3) q st x:=⟨_,rfl⟩;obtain⟨r,hr,nl2,buf',h',st',Y,rfl,hq',hs',hY,hn2,hYn⟩:=wc (xY hT Ba ho hA h2 h89 h81 h82 h83 (bad:=bad) (Jc:=Jc) (ya:=false) (fin:=fin) (at_:=a0+xz out) (by omega) hq ial hs hz hx hX1 hBt);rw[<- h90] at hr;rw[<- hBt] at hf;have H8:=gU (ss:=ss) (l:=l) (s:=bad==3) (h:=q) (st:=st) (x:=x);rw[<- hBt] at H8;have hlx:(X++[ba.tok 5 (Oc a0 out).length nl]).length=X.length+1:=by simp
  have hYl:0 < Y.length:=Zab.2 hYn
  have R7:bad=3->Bt.1.any Iq=true->Bt.1.length=1:=fun h3 hb=>by
   have e3:(bad==3)=true:=by rw[h3];rfl
   rw[e3] at hBt;rw[hBt] at hb ⊢;exact OT hb
  have e8:Sl A d c (Lc T bad c st' ((a0+xz out+(Bt.1.map (·.size)).sum:Nat):Int) Jc false fin) (We buf' 8 h' Bt.2.length) ((X++[ba.tok 5 (Oc a0 out).length nl])++Y)=jw A d c (Lc T bad c st' ((a0+xz out+(Bt.1.map (·.size)).sum:Nat):Int) Jc false fin) (We buf' 8 h' Bt.2.length) X (Oc a0 out).length nl Y:=by unfold jw;rw[Oab];rfl
  rw[e8,hlx] at hr;have N8:call 90 [.ptr d 0,.pv (u8 x)] (jw A d c (Lc T bad c st ((a0+xz out:Nat):Int) Jc false fin) (We buf 8 h q.length) X (Oc a0 out).length nl [])=some (.uq (A.length+(X.length+1)) nl2 5 (Oc (a0+xz out) Bt.1),jw A d c (Lc T bad c st' ((a0+xz out+(Bt.1.map (·.size)).sum:Nat):Int) Jc false fin) (We buf' 8 h' Bt.2.length) X (Oc a0 out).length nl Y):=hr;have U8:=fun E0=>gP (call:=call) (bad:=bad) (st:=st') (at_:=((a0+xz out+(Bt.1.map (·.size)).sum:Nat):Int)) (Jc:=Jc) (fin:=fin) (buf:=buf') (h:=h') (m:=Bt.2.length) hA h2 (T:=T) hX (p:=a0+xz out) R7 H8.1 (out:=Oc a0 out) (by rw[Xf];omega) (nl:=nl) (nl2:=nl2) hY (B:=B) (n:=bs.length) (i:=i) (id2:=A.length+(X.length+1)) (by omega) (hB.ie _ (by omega)) (E0:=E0)
  have tai:Oc a0 out++Oc (a0+xz out) Bt.1=Oc a0 (out++Bt.1):=(IB a0 out Bt.1).symm
  have jal:a0+xz out+(Bt.1.map (·.size)).sum=a0+xz (out++Bt.1):=by rw[pK];show _+_+xz Bt.1=_;omega
  have Yap:(Bt.1.map (·.size)).sum=xz Bt.1:=rfl
  generalize hQ:RH _ _ _ _=Q;simp -implicitDefEqProofs only[SX,sevalprocAttr,-List.reduceReplicate,yh,g0,g7,g38,g39,g40,e1,hia,Wa,N8,RE];refine wa (U8 _ (by simp[Tr.aa,g0]) (by simp[Tr.aa,g7]) (by simp[Tr.aa,g38]) (by simp[Tr.aa,g39]) (by simp[Tr.aa,g40]) (by simp[Tr.aa]) (by simp[Tr.aa,Xf]) (by simp[Tr.aa])) ?_;rintro r ⟨_,E2,E9,Y3,rfl,hY3,r0,r7,r38,r39,r40,rn⟩;rw[tai] at r7;rw[tai,jal]
  by_cases hsp:bad=3/\Bt.1.any Iq=true
  ·have e3:(bad==3)=true:=by rw[hsp.1];rfl
   rw[if_pos hsp,decide_eq_true hsp];simp -implicitDefEqProofs only[SX,sevalprocAttr,-List.reduceReplicate];subst hQ;simp only[e3,hsp.2,qae,if_true] at hf;refine⟨E2,E9,Y3,buf',Bt.2,h',st',out++Bt.1,true,rfl,r7,hY3,hq',hs',by rw[e3];exact hf,fun h=> ?_⟩;rw[Y7 (rn h).1,(rn h).2];rfl
  ·have e3:(bad==3&&Bt.1.any Iq)=false:=by
    cases hb:(bad==3) with
    |false=>rfl
    |true=>
     have:bad=3:=by simpa using hb
     cases hc:Bt.1.any Iq with
     |false=>rfl
     |true=>exact absurd ⟨this,hc⟩ hsp
   rw[taa hsp,decide_eq_false hsp];simp -implicitDefEqProofs only[SX,sevalprocAttr,-List.reduceReplicate,r0,r7,r38,r39,r40,t1];subst hQ;rw[e3,taa (by simp)] at hf;refine⟨(i+1,buf',h',Bt.2,st',out++Bt.1,E9),Y3,by simp[Has,Tr.aa,r0,r7,r38,r39],?_,rfl,hq',hs',?_,fun h=> ?_,?_,?_⟩
   ·show _=Sl _ _ _ _ _ _++_
    rw[Ot,Oab];rfl
   ·rw[hf];simp only[Oab]
   ·rw[Y7 (rn h).1,(rn h).2];rfl
   ·have:=H8.2.2.1
    show xz (out++Bt.1)+Bt.2.length<=_
    rw[pK];omega
   ·show (out++Bt.1).length<=_
    rw[Aaa];omega
 ·rintro⟨i,buf,h,q,st,out,nl⟩ E ⟨rfl,hq,hs,hf,Y7,K7,hol⟩ ⟨g0,g7,g38,g39,g40,_⟩
  simp only at hq hs hf Y7 K7 hol g0 g7 g38 g39 g40 ⊢;have e1:decide ((bs.length:Int) < (bs.length:Int))=false:=Ga (by omega);rw[Hab,Dl,Kab] at hf;generalize hQ:(fun r:Ex×St=>r.1.stop=true/\_)=Q;simp -implicitDefEqProofs only[SX,sevalprocAttr,-List.reduceReplicate,yh,g39,g40,e1];subst hQ;exact⟨rfl,_,nl,[],buf,q,h,st,out,false,rfl,by simp[Tr.aa,g7],Still.nil,hq,hs,hf,Y7⟩
structure iR where
 buf:List Int
 h:Nat
 q:List Int
 st:Int
 at_:Nat
 Jc:Int
 ya:Bool
 fin:Bool
theorem sL{s:iR}(hd:A[d]? =some (Lc T bad c s.st s.at_ s.Jc false false))(hc:A[c]? =some (We s.buf 8 s.h s.q.length))(hq:eo s.buf s.h s.q)(hs:stays l 0 s.q=some s.st){U:AV}{bs:List Int}(hU:mI U bs A.length)
 (ht0:0<=s.Jc) (ht1:s.Jc+bs.length<=65536) (Y8:s.at_<=65536):
 qd (fun r=>∃ (nl:Bool)(Y:List ba)(buf q:List Int)(h:Nat)(st:Int)(out:List Kv)(sp:Bool),r=(.mc [.uq A.length nl 5 (Oc s.at_ out),.pv (i64 0)],Sl A d c (Lc T bad c st ((s.at_+xz out:Nat):Int) (s.Jc+bs.length) sp false) (We buf 8 h q.length) Y)/\Still Y/\eo buf h q/\stays l 0 q=some st/\
  Dl ss l (bad==3) s.q bs=(out,q,sp)/\(nl=true->out=[])/\0 < Y.length)
  (ef call Sf [.ptr d 0,U] A):=by
 have lU:=hU.len
 have tp:=HB hd hc;have pd:=HF hd;have ld:=tA hd;have hf:=wH (T:=T) (bad:=bad) (C:= .rp (Vh s.buf 8 s.h s.q.length) 0) (st:=s.st) (at_:=s.at_) (Jc:=s.Jc) (ya:=false) (fin:=false);rw[taa (by simp),taa (by simp)] at hf;have w1:IntKind.i64.wrap (65536 - s.Jc)=65536 - s.Jc:=Aa (by omega)
 have w2:IntKind.i64.wrap (s.Jc+(bs.length:Int))=s.Jc+bs.length:=Aa (by omega)
 have fl:∀ n:Int,Nj (i64 n)=true:=fun n=>rfl;have d1:decide ((bs.length:Int) > 65536 - s.Jc)=false:=decide_eq_false (by omega);have z0:((0:Int)==0)=true:=rfl;have z1:((0:Int) != 0)=false:=rfl;have s5:Ha A 1 (.ptr d 5) (.pv (.int .i64 (s.Jc+bs.length)))=some (Sl A d c (Lc T bad c s.st s.at_ (s.Jc+bs.length) false false) (We s.buf 8 s.h s.q.length) []):=by
  rw[o6 hd]
  congr 1
  unfold Sl;rw[Kab];obtain⟨hl,hg⟩:=qaa.1 hc
  have:(A.set d (Lc T bad c s.st s.at_ (s.Jc+bs.length) false false))[c]? =some (We s.buf 8 s.h s.q.length):=by rw[Jaa h2.ne];exact hc
  obtain⟨T8,hg'⟩:=qaa.1 this
  rw[<- hg'];exact (List.set_getElem_self _).symm
 have gh:∀ E:Tr,E.get 7= .pv .ga->∀ o1 o2,fe (.DA 7 5) ⟨E,Sl A d c o1 o2 []⟩=some ⟨E.set 7 (.uq A.length true 5 []),jw A d c o1 o2 [] 0 true []⟩:=fun E h o1 o2=>by simp only[fe,h,sm,Ot];rfl
 have D7:=fun E0=>iP (call:=call) (call':=call') (call'':=call'') (call3:=call3) hT Ba ho H7 ha hA h2 h90 h89 h81 h82 h83 (bad:=bad) (Jc:=s.Jc+bs.length) (fin:=false) (a0:=s.at_) Y8 hU (by omega) (X:=[]) Still.nil hq hs (E0:=E0)
 generalize Nq T bad (.rp (Vh s.buf 8 s.h s.q.length) 0) s.st s.at_ s.Jc false false=row at *
 generalize hQ:(fun r:AV×List ba=>∃ (nl:Bool)(Y:List ba)(buf q:List Int)(h:Nat)(st:Int)(out:List Kv)(sp:Bool),r=_/\_)=Q;simp -implicitDefEqProofs only[SP,WP,sevalprocAttr,-List.reduceReplicate,Sf,lU,tp,pd,ld,hf,fl,w1,d1,z0,z1,w2,s5,DB,gh,Tr.aa];refine wa (D7 _ (by simp[Tr.aa]) (by simp[Tr.aa]) (by simp[Tr.aa]) (by simp[Tr.aa]) (by simp[Tr.aa])) ?_;rintro r ⟨_,E,nl,Y,buf,q,h,st,out,sp,rfl,r7,hY,rq,rs,rf,rn⟩;simp -implicitDefEqProofs only[SP,WP,sevalprocAttr,-List.reduceReplicate,r7];subst hQ;exact⟨nl,.tok 5 (Oc s.at_ out).length nl::Y,buf,q,h,st,out,sp,rfl,(Still.tok _ _ _).cons hY,rq,rs,rf,rn,by simp⟩
end
theorem LK{ss:List Ob}(h:∀ s∈ss,∀ l∈s.parts,l.length<=1000)(h2:∀ s∈ss,s.parts.length<=1000)(h3:ss.length<=1000):qb (.lit 2 (ss.map uf)) ss (ss.map uf):=by
 refine⟨.inr rfl,by rw[paa],fun k e s he hs=> ?_,by unfold maxLen;omega⟩;rw[Faa,hs] at he;injection he with he
 have hm:=sab hs;refine⟨_,_,he.symm,.inr rfl,by rw[paa],fun j v l hv hl=> ?_,by have:=h2 s hm;unfold maxLen;omega⟩;rw[Faa,hl] at hv;injection hv with hv
 have:=h s hm l (sab hl);exact⟨.inr hv.symm,by omega⟩
theorem fO{ss:List Ob}{l:List (List de)}{a b c d:Int}(hh:qb (.lit 2 (ss.map uf)) ss (ss.map uf))(hv:Qg [.agg [.lit 2 (ss.map uf)]]=some (.bool true))(hp:gf [.agg [.lit 2 (ss.map uf)]]=some (.mc [.agg [.bool true,i64 a,i64 b],i64 0]))
 (hi:Ah [.agg [.lit 2 (ss.map uf)]]=some (.mc [.agg [.bool true,i64 c,i64 d],i64 0])) (ha:ig ss=some l):
 Xb ss/\∃ T,Hb [.agg [.lit 2 (ss.map uf)]]=some (.mc [T,i64 0])/\Uo T ss l/\∀ e∈l,sj e:=by
 obtain⟨x,h1,h2⟩:=Dm hh;rw[hv] at h1;injection h1 with h1
 injection h1 with h1
 have Ba:=h2.1 h1.symm
 obtain⟨y,a',b',h3,h4⟩:=(lG hh).2 Ba
 rw[hp] at h3;injection h3 with h3
 injection h3 with h3
 injection h3 with h3 _
 injection h3 with h3
 injection h3 with h3 _
 injection h3 with h3
 have H7:=h4.1 h3.symm
 obtain⟨T,t1,t2⟩:=cH hh Ba H7 ha hi;exact⟨Ba,T,t1,t2,QG Ba H7 ha⟩
theorem K4.of{T:PV}{ss:List Ob}{l:List (List de)}(hT:Uo T ss l)(Ba:Xb ss):K4 T fun u=>GY u ss:=by
 refine⟨fun u=>oX hT Ba u,fun u b h=> ?_,?_⟩
 ·obtain⟨s,hs,h1,h2,rfl,_⟩:=IN Ba.ft h
  have hk:=Ba.ft s hs
  have:=(cy s.parts (u - s.first) 0 hk.parts (by omega) (by omega)).2.1
  have:=hk.hi
  omega
 ·obtain⟨S',NX,DG,RW,h,_⟩:=hT.ex
  exact⟨_,h⟩
section
variable {H:List ba}{T:PV}{cd:Int->Option (List Int)}{call:Sa}
end
def Ms:List Ob:=[⟨[[(0,127)]],0⟩,⟨[[(194,223)],[(128,191)]],128⟩,⟨[[(225,225)],[(128,191)],[(128,191)]],4096⟩]
theorem LO:Qg [.agg [.lit 2 (Ms.map uf)]]=some (.bool true):=by kernel_rfl
theorem IK:gf [.agg [.lit 2 (Ms.map uf)]]=some (.mc [.agg [.bool true,i64 0,i64 0],i64 0]):=by kernel_rfl
theorem GL:Ah [.agg [.lit 2 (Ms.map uf)]]=some (.mc [.agg [.bool true,i64 0,i64 0],i64 0]):=by kernel_rfl
def PC:List (List de):=[[⟨0,127,-1⟩,⟨194,223,1⟩,⟨225,225,2⟩],[⟨128,191,-1⟩],[⟨128,191,1⟩]]
theorem SL:ig Ms=some PC:=by kernel_rfl
theorem QU.lit(us:List Int)(n0:Nat):QU (.pv (.lit 1 (us.map i64))) us n0:=by
 refine⟨fun H=>by simp[Tb],fun H i h=> ?_,fun n hn=>Qa⟩;simp only[ta];rw[if_pos ⟨trivial,by unfold Ia;rw[paa];omega⟩,Eaa,Faa,caa h];rfl
theorem QU.ga(n0:Nat):QU (.pv .ga) [] n0:=⟨fun H=>rfl,fun H i h=>by simp at h,fun n hn=>Qa⟩
theorem QU.uq(us:List Int){id n0:Nat}(nl:Bool)(h:id < n0):QU (.uq id nl 1 (us.map i64)) us n0:=by
 refine⟨fun H=>by simp[Tb],fun H i h=> ?_,fun n hn=>CG (by omega)⟩;simp only[ta];rw[if_pos ⟨trivial,by unfold Ia;rw[paa];omega⟩,Eaa,Faa,caa h];rfl
end Go.AM.B1
