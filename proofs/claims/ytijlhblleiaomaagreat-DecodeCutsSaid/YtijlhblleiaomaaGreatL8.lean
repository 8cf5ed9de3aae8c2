/- What functions of the program compute. -/
import Derived.Test.YtijlhblleiaomaaGreatL7
import Derived.Test.YtijlhblleiaomaaGreatL2
import Derived.Test.YtijlhblleiaomaaGreatL4
import Derived.Test.YtijlhblleiaomaaGreatL5
import Derived.Test.YtijlhblleiaomaaGreatL6
set_option linter.unusedVariables false
set_option linter.unusedSimpArgs false
namespace Go.AM.B1
open Go.AM Go.AM.So
theorem B3{call:Sa}(k:Nat)(s:St):oa call (.goto k) s=some (.goto k,s):=rfl
theorem MY{call:Sa}(k:Nat)(a b:Ja)(s:St):oa call (.jumps k a b) s=zv k (oa call b) (oa call a s):=rfl
theorem VS(f:St->Option (Ex×St))(n:Nat)(s:St):Yz f (some (.goto n,s))=some (.goto n,s):=rfl
def Iw(A:List ba)(d c:Nat)(o1 o2:ba)(X:List ba)(n:Nat)(nl:Bool)(Y:List ba):List ba:=Ul A d c o1 o2 (X++ .tok 5 n nl::Y)
section
variable {A:List ba}{d c:Nat}{o1 o2:ba}{X Y:List ba}{n:Nat}{nl:Bool}
theorem OZ:(Iw A d c o1 o2 X n nl Y)[A.length+X.length]? =some (.tok 5 n nl):=by
 unfold Iw;rw[T2,Kaa (paa _),ead];rfl
theorem tZ(m:Nat)(b:Bool):(Iw A d c o1 o2 X n nl Y).set (A.length+X.length) (.tok 5 m b)=Iw A d c o1 o2 X m b Y:=by
 unfold Iw;rw[oN,Jab _ _ (paa _),ead];rfl
theorem FP{es:List PV}(e:PV)(hn:n=es.length)(hl:es.length<=1000000000000):Cb (Iw A d c o1 o2 X n nl Y) false .uq 5 true 40 (.uq (A.length+X.length) nl 5 es) (.pv (.lit 5 [e]))=some (.uq (A.length+X.length) false 5 (es++[e]),Iw A d c o1 o2 X (es++[e]).length false Y):=by
 subst hn;rw[Mh OZ rfl (by unfold eb;omega),tZ,raa];rfl
end
theorem Still.Iw{X Y:List ba}{n:Nat}{nl:Bool}(hX:Still X)(hY:Still Y):Still (X++ .tok 5 n nl::Y):=hX.app ((Still.tok 5 n nl).cons hY)
section
variable {T:PV}{ss:List Nb}{l:List (List ae)}(hT:xo T ss l)(Ba:Xb ss)(ho:∀ e∈l,yj e)
variable {call call':Sa}{A:List ba}{d c:Nat}(hA:Wd A)(h2:JY A d c){bad Kc:Int}{ya fin:Bool}
 (h89:∀ H (k:Int),call 89 [.ptr d 0,.pv (i64 k)] H=ef call' Zb [.ptr d 0,.pv (i64 k)] H)
 (h81:∀ H (x:Int),call 81 [.ptr c 0,.pv (u8 x)] H=ef call' ve [.ptr c 0,.pv (u8 x)] H)
 {call'':Sa} (h82:∀ H (n:Int),call' 82 [.ptr c 0,.pv (i64 n)] H=ef call'' Qc [.ptr c 0,.pv (i64 n)] H) (h83:∀ H,call' 83 [.ptr c 0] H=ef call'' Cc [.ptr c 0] H)
include hT Ba hA h2 h89 h82 h83
theorem iN{st:Int}{at_:Nat}(u9:at_<=1000000){buf q:List Int}{h:Nat}(hq:wo buf h q){X:List ba}(hX:Still X){n:Nat}{nl:Bool}{Y:List ba}(hY:Still Y){k u:Int}(hu:u=if k=1 then (Gu q ss).getD 0 else 0):
 ∃ Y',Still Y'/\call 89 [.ptr d 0,.pv (i64 k)] (Iw A d c (Lc T bad c st at_ Kc ya fin) (We buf 8 h q.length) X n nl Y)=some (.pv (ah ⟨k,q.length,u⟩ at_),Iw A d c (Lc T bad c 0 ((at_+q.length:Nat):Int) Kc ya fin) (We buf 8 ((h+q.length) % 8:Nat) ([]:List Int).length) X n nl Y'):=by
 rw[h89];obtain⟨Y',y1,y2⟩:=IM (call:=call') (call':=call'') hA h2 (hX.Iw hY (n:=n) (nl:=nl)) (T:=T) (bad:=bad) (st:=st) (Kc:=Kc) (at_:=at_) (ya:=ya) (fin:=fin) hq h82 h83 u9 (k:=k) (u:=u)
  (fun hk=>by
   have:=aY hT Ba (B:= .lit 1 (q.map u8)) (bs:=q) ⟨.inr rfl,hq.Sy⟩;rw[if_pos hk] at hu;subst hu;cases hc:Gu q ss with
   |some v=>exact⟨true,by rw[hc] at this;exact this⟩
   |none=>exact⟨false,by rw[hc] at this;exact this⟩)
  (fun hk=>by rw[kaa hk] at hu;exact hu)
 refine⟨Y++Y',hY.app y1,?_⟩;unfold Iw;rw[y2,Dab,bab];rfl
include h81 ho
def qq(ss:List Nb)(l:List (List ae))(q:List Int)(st x:Int):List Mv×List Int×Int:=
 if (Nd l st x).2=true then (if (Nd l st x).1= -1 then ([⟨1,q.length+1,(Gu (q++[x]) ss).getD 0⟩],[],0) else ([],q++[x],(Nd l st x).1)) else ([⟨2,q.length+1,0⟩],[],0)
theorem nV{st:Int}{at_:Nat}(u9:at_<=1000000){buf q:List Int}{h:Nat}(hq:wo buf h q)(hl:q.length < 8){x:Int}(hx:0<=x/\x<=255)(h0:(Nd l st x).2=true\/st=0){X:List ba}(hX:Still X){es:List PV}(hes:es.length<=1000000000){nl:Bool}{Y:List ba}(hY:Still Y)
 {E:Tr} (g0:E.get 0= .ptr d 0) (g1:E.get 1= .pv (u8 x)) (g5:E.get 5= .uq (A.length+X.length) nl 5 es) {R:List Mv×List Int×Int} (hR:R=qq ss l q st x):
 qd (fun r=>∃ E' nl' buf' h' Y',r=(.ret,⟨E',Iw A d c (Lc T bad c R.2.2 ((at_+(R.1.map (·.size)).sum:Nat):Int) Kc ya fin) (We buf' 8 h' R.2.1.length) X (es++Nc at_ R.1).length nl' Y'⟩)/\
  E'.get 4= .uq (A.length+X.length) nl' 5 (es++Nc at_ R.1)/\wo buf' h' R.2.1/\Still Y'/\(nl'=true->nl=true/\R.1=[])) (oa call Wb ⟨E,Iw A d c (Lc T bad c st at_ Kc ya fin) (We buf 8 h q.length) X es.length nl Y⟩):=by
 have Y7:=oJ hT ho hx (st:=st);obtain⟨K,hK⟩:∃ K:ba->ba->Nat->Bool->List ba->List ba,K=fun o1 o2 m nl Y=>Iw A d c o1 o2 X m nl Y:=⟨_,rfl⟩;have hK':∀ o1 o2 m nl Y,Iw A d c o1 o2 X m nl Y=K o1 o2 m nl Y:=fun o1 o2 m nl Y=>by rw[hK]
 have gd:∀ o1 o2 m nl Y,(K o1 o2 m nl Y)[d]? =some o1:=fun o1 o2 m nl Y=>by rw[hK];exact OD h2
 have gc:∀ o1 o2 m nl Y,(K o1 o2 m nl Y)[c]? =some o2:=fun o1 o2 m nl Y=>by rw[hK];exact sJ h2
 have sd:∀ o1 o2 m nl Y o,(K o1 o2 m nl Y).set d o=K o o2 m nl Y:=fun o1 o2 m nl Y o=>by rw[hK];exact rG h2
 have sc:∀ o1 o2 m nl Y o,(K o1 o2 m nl Y).set c o=K o1 o m nl Y:=fun o1 o2 m nl Y o=>by rw[hK];exact kO h2
 have pd:∀ st at_ o2 m nl Y k,place (K (Lc T bad c st at_ Kc ya fin) o2 m nl Y) k (.ptr d 0)=some (.ptr d k):=fun st at_ o2 m nl Y k=>zH (gd _ _ _ _ _) k;have ldd:=fun st at_ o2 m nl Y=>WA (gd (Lc T bad c st at_ Kc ya fin) o2 m nl Y);have sst:∀ at_ o2 m nl Y v,Ha (K (Lc T bad c st at_ Kc ya fin) o2 m nl Y) 1 (.ptr d 3) (.pv (i64 v))=some (K (Lc T bad c v at_ Kc ya fin) o2 m nl Y):=fun at_ o2 m nl Y v=>by rw[U2 (gd _ _ _ _ _),sd]
 obtain⟨buf',hq',hpu⟩:=LW (call:=call') hq (gc (Lc T bad c st at_ Kc ya fin) (We buf 8 h q.length) es.length nl Y) hl hx;rw[sc,<-h81] at hpu;have ap:∀ o1 o2 Y e,Cb (K o1 o2 es.length nl Y) false .uq 5 true 40 (.uq (A.length+X.length) nl 5 es) (.pv (.lit 5 [e]))=some (.uq (A.length+X.length) false 5 (es++[e]),K o1 o2 (es++[e]).length false Y):=fun o1 o2 Y e=>by rw[hK];exact FP e rfl (by omega)
 have bsl:∀ (e:Mv)(a:Int)(H:List ba),((if (List.map AV.pv (ah e a).cells).length=5/\(List.map AV.pv (ah e a).cells).all AV.one=true then some (fa [AV.pv (PV.int IntKind.i64 0),AV.pv (PV.int IntKind.i64 0),AV.pv (PV.int IntKind.i64 0),AV.pv (PV.int IntKind.i64 0),AV.pv (PV.int IntKind.i64 0)] 0 (List.map AV.pv (ah e a).cells)) else none).bind fun cs=>
  if cs.all AV.one=true then Option.map (fun ps=>(AV.pv (PV.lit 5 [PV.agg (List.take 5 ps)]),H)) (Tc cs) else none)=some (.pv (.lit 5 [ah e a]),H):=fun e a H=>rfl
 have C8:(q++[x]).length=q.length+1:=by simp
 have hsh:=fun (k u:Int)(hu:u=if k=1 then (Gu (q++[x]) ss).getD 0 else 0)=>iN hT Ba hA h2 h89 h82 h83 (bad:=bad) (Kc:=Kc) (ya:=ya) (fin:=fin) (st:=st) u9 hq' hX (n:=es.length) (nl:=nl) hY (k:=k) (u:=u) hu;unfold qq at hR;generalize hs1:(Nd l st x).1=s1 at *
 generalize hs2:(Nd l st x).2=s2 at *
 simp only[hK'] at hsh ⊢;clear hK hK' sc gc gd h89 h81 h82 h83;cases s2 with
 |true=>
  rw[if_pos rfl] at hR
  by_cases h1:s1= -1
  ·rw[if_pos h1] at hR
   subst hR;have e1:(s1== -1)=true:=by rw[h1];rfl
   obtain⟨Y',y1,y2⟩:=hsh 1 _ rfl;rw[if_pos rfl] at y2;simp only[C8] at y2 hpu;generalize hQ:(fun r:Ex×St=>∃ E' nl' buf' h' Y',r=_/\_)=Q;simp -implicitDefEqProofs only[SX,sevalprocAttr,Wb,g0,g1,g5,pd,ldd,Y7,hpu,e1,y2,bsl,ap];subst hQ;refine⟨_,false,buf',(h+(q.length+1)) % 8,Y',rfl,?_,?_,y1,fun h=>by cases h⟩
   ·simp[Tr.aa,Nc]
   ·have:=(dz (call:=call) hq' (H:=[.box ((Yh buf' 8 h (q++[x]).length).map .pv)]) (c:=0) rfl (paa _)).1
    rw[vab,C8] at this;exact this
  ·rw[kaa h1] at hR
   subst hR;have e1:(s1== -1)=false:=beq_false_of_ne h1;generalize hQ:(fun r:Ex×St=>∃ E' nl' buf' h' Y',r=_/\_)=Q;simp -implicitDefEqProofs only[SX,sevalprocAttr,Wb,g0,g1,g5,pd,ldd,Y7,hpu,e1,sst];subst hQ;exact⟨_,nl,buf',h,Y,by rw[show es++Nc at_ []=es from wab es];rfl,by simp[Tr.aa,Nc,g5],hq',hY,fun h=>⟨h,rfl⟩⟩
 |false=>
  rw[kaa (by simp)] at hR;subst hR;have h00:st=0:=h0.resolve_left (by simp)
  subst h00;have z0:((0:Int) != 0)=false:=rfl;obtain⟨Y',y1,y2⟩:=hsh 2 0 rfl;simp only[C8] at y2 hpu;generalize hQ:(fun r:Ex×St=>∃ E' nl' buf' h' Y',r=_/\_)=Q;simp -implicitDefEqProofs only[SX,sevalprocAttr,Wb,g0,g1,g5,pd,ldd,Y7,hpu,z0,y2,bsl,ap];subst hQ;refine⟨_,false,buf',(h+(q.length+1)) % 8,Y',rfl,?_,?_,y1,fun h=>by cases h⟩
  ·simp[Tr.aa,Nc]
  ·have:=(dz (call:=call) hq' (H:=[.box ((Yh buf' 8 h (q++[x]).length).map .pv)]) (c:=0) rfl (paa _)).1
   rw[vab,C8] at this;exact this
omit h81 in
theorem NT{st:Int}{at_:Nat}(u9:at_<=1000000){buf q:List Int}{h:Nat}(hq:wo buf h q){x:Int}(hx:0<=x/\x<=255)(h0:(Nd l st x).2=false/\st≠0){X:List ba}(hX:Still X){es:List PV}(hes:es.length<=1000000000){nl:Bool}{Y:List ba}(hY:Still Y)
 {E:Tr} (g0:E.get 0= .ptr d 0) (g1:E.get 1= .pv (u8 x)) (g5:E.get 5= .uq (A.length+X.length) nl 5 es):
 qd (fun r=>∃ E' Y' buf' h',r=(if bad=3 then .ret else .goto 0,⟨E',Iw A d c (Lc T bad c 0 ((at_+q.length:Nat):Int) Kc ya fin) (We buf' 8 h' ([]:List Int).length) X (es++[ah ⟨2,q.length,0⟩ at_]).length false Y'⟩)/\
  (bad=3->E'.get 4= .uq (A.length+X.length) false 5 (es++[ah ⟨2,q.length,0⟩ at_]))/\E'.get 5= .uq (A.length+X.length) false 5 (es++[ah ⟨2,q.length,0⟩ at_])/\E'.get 0= .ptr d 0/\E'.get 1= .pv (u8 x)/\Still Y'/\wo buf' h' [])
  (oa call Wb ⟨E,Iw A d c (Lc T bad c st at_ Kc ya fin) (We buf 8 h q.length) X es.length nl Y⟩):=by
 have Y7:=oJ hT ho hx (st:=st);obtain⟨K,hK⟩:∃ K:ba->ba->Nat->Bool->List ba->List ba,K=fun o1 o2 m nl Y=>Iw A d c o1 o2 X m nl Y:=⟨_,rfl⟩;have hK':∀ o1 o2 m nl Y,Iw A d c o1 o2 X m nl Y=K o1 o2 m nl Y:=fun o1 o2 m nl Y=>by rw[hK]
 have gd:∀ o1 o2 m nl Y,(K o1 o2 m nl Y)[d]? =some o1:=fun o1 o2 m nl Y=>by rw[hK];exact OD h2
 have pd:∀ st at_ o2 m nl Y k,place (K (Lc T bad c st at_ Kc ya fin) o2 m nl Y) k (.ptr d 0)=some (.ptr d k):=fun st at_ o2 m nl Y k=>zH (gd _ _ _ _ _) k;have ldd:=fun st at_ o2 m nl Y=>WA (gd (Lc T bad c st at_ Kc ya fin) o2 m nl Y);have ap:∀ o1 o2 Y e,Cb (K o1 o2 es.length nl Y) false .uq 5 true 40 (.uq (A.length+X.length) nl 5 es) (.pv (.lit 5 [e]))=some (.uq (A.length+X.length) false 5 (es++[e]),K o1 o2 (es++[e]).length false Y):=fun o1 o2 Y e=>by rw[hK];exact FP e rfl (by omega)
 have bsl:∀ (e:Mv)(a:Int)(H:List ba),((if (List.map AV.pv (ah e a).cells).length=5/\(List.map AV.pv (ah e a).cells).all AV.one=true then some (fa [AV.pv (PV.int IntKind.i64 0),AV.pv (PV.int IntKind.i64 0),AV.pv (PV.int IntKind.i64 0),AV.pv (PV.int IntKind.i64 0),AV.pv (PV.int IntKind.i64 0)] 0 (List.map AV.pv (ah e a).cells)) else none).bind fun cs=>
  if cs.all AV.one=true then Option.map (fun ps=>(AV.pv (PV.lit 5 [PV.agg (List.take 5 ps)]),H)) (Tc cs) else none)=some (.pv (.lit 5 [ah e a]),H):=fun e a H=>rfl
 obtain⟨Y',y1,y2⟩:=iN hT Ba hA h2 h89 h82 h83 (bad:=bad) (Kc:=Kc) (ya:=ya) (fin:=fin) (st:=st) u9 hq hX (n:=es.length) (nl:=nl) hY (k:=2) (u:=0) rfl;have hqn:=(dz (call:=call) hq (H:=[.box ((Yh buf 8 h q.length).map .pv)]) (c:=0) rfl (paa _)).1
 rw[vab] at hqn;rw[h0.1] at Y7;generalize hs1:(Nd l st x).1=s1 at *
 simp only[hK'] at y2 ⊢;clear hK hK' gd h89 h82 h83;have z0:(st != 0)=true:=by simp[h0.2]
 by_cases h3:bad=3
 ·have e3:(bad==3)=true:=by rw[h3];rfl
  rw[if_pos h3];generalize hQ:(fun r:Ex×St=>∃ E' Y' buf' h',r=_/\_)=Q;simp -implicitDefEqProofs only[SX,sevalprocAttr,Wb,g0,g1,g5,pd,ldd,Y7,z0,y2,bsl,ap,e3];subst hQ;exact⟨_,Y',buf,_,rfl,fun _=>by simp[Tr.aa],by simp[Tr.aa],by simp[Tr.aa,g0],by simp[Tr.aa,g1],y1,hqn⟩
 ·have e3:(bad==3)=false:=beq_false_of_ne h3
  rw[kaa h3];generalize hQ:(fun r:Ex×St=>∃ E' Y' buf' h',r=_/\_)=Q;simp -implicitDefEqProofs only[SX,sevalprocAttr,Wb,g0,g1,g5,pd,ldd,Y7,z0,y2,bsl,ap,e3,B3,VS];subst hQ;exact⟨_,Y',buf,_,rfl,fun h=>absurd h h3,by simp[Tr.aa],by simp[Tr.aa,g0],by simp[Tr.aa,g1],y1,hqn⟩
end
def Yq(T:PV)(bad:Int)(C:PV)(st at_ Kc:Int)(ya fin:Bool):List PV:=[T,i64 bad,C,i64 st,i64 at_,i64 Kc,.bool ya,.bool fin]
theorem uC{H:List ba}{d c:Nat}{T:PV}{bad st at_ Kc:Int}{ya fin:Bool}{buf:List Int}{r h n:Int}(hd:H[d]? =some (Lc T bad c st at_ Kc ya fin))(hc:H[c]? =some (We buf r h n)):
 Sb H 6 (.ptr d 0)=some (.rp (Yq T bad (.rp (Yh buf r h n) 0) st at_ Kc ya fin) 0):=by
 have h1:=AK hc 4;rw[Sb];simp only[hd,Lc,fO,Ra,aC,h1,yaa,Haa];rfl
section
variable (T:PV)(bad:Int)(C:PV)(st at_ Kc:Int)(ya fin:Bool)(H:List ba)
theorem HB:pa H false 1 (.pv (.rp (Yq T bad C st at_ Kc ya fin) 0))=some (.pv T)/\pa H false 1 (.pv (.rp (Yq T bad C st at_ Kc ya fin) 1))=some (.pv (i64 bad))/\pa H false 1 (.pv (.rp (Yq T bad C st at_ Kc ya fin) 2))=some (.pv C)/\
 pa H false 1 (.pv (.rp (Yq T bad C st at_ Kc ya fin) 5))=some (.pv (i64 Kc))/\pa H false 1 (.pv (.rp (Yq T bad C st at_ Kc ya fin) 6))=some (.pv (.bool ya))/\pa H false 1 (.pv (.rp (Yq T bad C st at_ Kc ya fin) 7))=some (.pv (.bool fin)):=⟨rfl,rfl,rfl,rfl,rfl,rfl⟩
end
section
variable {T:PV}{bad:Int}{C:PV}{st at_ Kc:Int}{ya fin:Bool}
theorem vG:ye [.rp (Yq T bad C st at_ Kc ya fin) 0]=some (i64 (if fin then 181 else if ya then 182 else 0)):=by
 have ld:=HB T bad C st at_ Kc ya fin;have pl:=Hy (Yq T bad C st at_ Kc ya fin);generalize Yq T bad C st at_ Kc ya fin=row at *;have e1:∀ H,Kq H 1 (.pv (.rp row 0)) (.pv .sf)=some false:=fun H=>rfl;cases fin with
 |true=>simp -implicitDefEqProofs only[ye,SX,sevalprocAttr,Og,e1,pl,ld,if_true]
 |false=>
  cases ya with
  |true=>simp -implicitDefEqProofs only[ye,SX,sevalprocAttr,Og,e1,pl,ld,if_true,saa,if_false]
  |false=>simp -implicitDefEqProofs only[ye,SX,sevalprocAttr,Og,e1,pl,ld,saa,if_false]
theorem kQ:Gk [.rp (Yq T bad C st at_ Kc ya fin) 0]=some (i64 Kc):=by
 have ld:=HB T bad C st at_ Kc ya fin;have pl:=Hy (Yq T bad C st at_ Kc ya fin);generalize Yq T bad C st at_ Kc ya fin=row at *;have e1:∀ H,Kq H 1 (.pv (.rp row 0)) (.pv .sf)=some false:=fun H=>rfl;simp -implicitDefEqProofs only[Gk,SX,sevalprocAttr,bo,e1,pl,ld]
theorem PL:Gj [.rp (Yq T bad C st at_ Kc ya fin) 0]=some (.bool ya):=by
 have ld:=HB T bad C st at_ Kc ya fin;have pl:=Hy (Yq T bad C st at_ Kc ya fin);generalize Yq T bad C st at_ Kc ya fin=row at *;have e1:∀ H,Kq H 1 (.pv (.rp row 0)) (.pv .sf)=some false:=fun H=>rfl;simp -implicitDefEqProofs only[Gj,SX,sevalprocAttr,Lm,e1,pl,ld]
theorem rJ{buf q:List Int}{h:Nat}{r:Int}(hq:wo buf h q):bc [.rp (Yq T bad (.rp (Yh buf r h q.length) 0) st at_ Kc ya fin) 0]=some (i64 q.length):=by
 have hl:=Hw (r:=r) hq;have ld:=HB T bad (.rp (Yh buf r h q.length) 0) st at_ Kc ya fin;have pl:=Hy (Yq T bad (.rp (Yh buf r h q.length) 0) st at_ Kc ya fin);generalize Yq T bad (.rp (Yh buf r h q.length) 0) st at_ Kc ya fin=row at *;have e1:∀ H,Kq H 1 (.pv (.rp row 0)) (.pv .sf)=some false:=fun H=>rfl;simp -implicitDefEqProofs only[bc,SX,sevalprocAttr,Vk,e1,pl,ld,hl]
theorem AN{buf q:List Int}{h:Nat}{r:Int}(hq:wo buf h q):pk [.rp (Yh buf r h q.length) 0]=some (i64 r):=by
 obtain⟨c8,c9,c10⟩:=UG hq.len (r:=r) (h:=h) (n:=q.length)
 generalize Yh buf r h q.length=row at *
 have e1:∀ H,Kq H 1 (.pv (.rp row 0)) (.pv .sf)=some false:=fun H=>rfl;have pl:=Hy row;have ld:=fun H=>uK c8 H;simp -implicitDefEqProofs only[pk,SX,sevalprocAttr,Ym,e1,pl,ld]
theorem DS{buf q:List Int}{h:Nat}{r:Int}(hq:wo buf h q):Pf [.rp (Yq T bad (.rp (Yh buf r h q.length) 0) st at_ Kc ya fin) 0]=some (i64 r):=by
 have hl:=AN (r:=r) hq;have ld:=HB T bad (.rp (Yh buf r h q.length) 0) st at_ Kc ya fin;have pl:=Hy (Yq T bad (.rp (Yh buf r h q.length) 0) st at_ Kc ya fin);generalize Yq T bad (.rp (Yh buf r h q.length) 0) st at_ Kc ya fin=row at *;have e1:∀ H,Kq H 1 (.pv (.rp row 0)) (.pv .sf)=some false:=fun H=>rfl;simp -implicitDefEqProofs only[Pf,SX,sevalprocAttr,Zk,e1,pl,ld,hl]
end
section
variable {S:PV}{ss:List Nb}{es:List PV}(hS:qb S ss es)(Ba:Xb ss)
include hS Ba
end
open Go.AM
theorem lk.take{B:PV}{bs:List Int}(h:lk B bs){n:Nat}(hn:n<=bs.length):∃ B',(∀ H,ug H 1 (.pv B) none (some (n:Int))=some (.pv B'))/\lk B' (bs.take n)/\(AV.pv B').one=true:=by
 rcases h.is with⟨rfl,hb⟩ | rfl
 ·have:bs=[]:=by simpa using hb
  subst this;have:n=0:=by simpa using hn
  subst this;exact⟨.ga,fun H=>rfl,⟨.inl ⟨rfl,rfl⟩,by simp⟩,rfl⟩
 ·refine⟨.lit 1 ((bs.take n).map (PV.int .u8)),fun H=> ?_,⟨.inr rfl,fun b hb=>h.Sy b (uac hb)⟩,rfl⟩
  simp only[ug,Tac,Option.getD_none];rw[if_pos ⟨by omega,trivial,by omega,by omega,by simp;omega⟩];simp[List.map_take]
theorem JR{ss:List Nb}(Ba:Xb ss)(hinj:Fm ss){i j:Nat}(hi:i < ss.length)(hj:j < ss.length){w:List Nat}(hw:Bytes w)(h1:Full ss[i] w)(h2:Full ss[j] w):i=j:=by
 have key:∀ i j (hi:i < ss.length) (hj:j < ss.length),i < j->Full ss[i] w->Full ss[j] w->False:=by
  intro i j hi hj E7 h1 h2;have e:ss[i].parts.length=ss[j].parts.length:=by rw[<- h1.2,<-h2.2]
  have:=hinj i j hi hj E7 e;rw[tN (Ba.dt _ (jaa hi)) (Ba.dt _ (jaa hj)) (by omega) hw h1 h2.1] at this;cases this
 rcases Nat.lt_trichotomy i j with h | h | h
 ·exact (key i j hi hj h h1 h2).elim
 ·exact h
 ·exact (key j i hj hi h h2 h1).elim
theorem FR{b:List Int}:∀ {ss:List Nb}{i:Nat}(hi:i < ss.length){k:Int},Mi ss[i] b=some k->(∀ j (hj:j < ss.length),(Mi ss[j] b).isSome->j=i)->Gu b ss=some (ss[i].first+k)
 |s::ss,0,_,k,hk,_=>by have hk:Mi s b=some k:=hk;rw[Gu,hk];rfl
 |s::ss,i+1,hi,k,hk,h=>by
  have hn:Mi s b=none:=by
   cases hr:Mi s b with
   |none=>rfl
   |some x=>have:=h 0 (by simp) (by show (Mi s b).isSome=true;rw[hr];rfl);omega
  rw[Gu,hn];exact FR (ss:=ss) (i:=i) (by simpa using hi) hk fun j hj hs=>by have:=h (j+1) (by simpa using hj) hs;omega
def vF:List (List (Int×Int))->List Int->Int->Option Int
 |l::r,x::b,k=>if (Ld x 0 l).2=true then vF r b (k * ib 0 l+(Ld x 0 l).1) else none
 |_,_,k=>some k
theorem NF:∀ (ls:List (List (Int×Int)))(bs:List Int)(k:Int),bs.length=ls.length->vF ls bs k=Ch ls bs (k * Na ls)
 | [],[],k,_=>by simp[vF,Ch,Na]
 | [],_::_,k,h=>by simp at h
 |_::_,[],k,h=>by simp at h
 |l::r,x::b,k,h=>by
  rw[vF,Ch]
  split
  ·rw[NF r b _ (by simpa using h),Na]
   congr 1
   rw[Int.add_mul,Int.mul_assoc,Zad (ib 0 l)]
  ·rfl
def au:List (List (Int×Int))->List Int->Nat->Int->Nat×Int
 |l::ls,x::b,n,k=>if (Ld x 0 l).2=true then au ls b (n+1) (k * ib 0 l+(Ld x 0 l).1) else (n,k)
 |_,_,n,k=>(n,k)
theorem lH:∀ (ls:List (List (Int×Int)))(bs:List Int)(n:Nat)(k:Int),∃ m,(au ls bs n k).1=n+m/\m<=ls.length/\m<=bs.length/\(m=ls.length->vF ls (bs.take m) k=some (au ls bs n k).2)/\
 (∀ j (h1:j < ls.length) (h2:j < bs.length),j < m->(Ld bs[j] 0 ls[j]).2=true)/\(∀ (h1:m < ls.length)(h2:m < bs.length),(Ld bs[m] 0 ls[m]).2=false)
 | [],bs,n,k=>⟨0,by simp[au],by simp,by simp,fun _=>by simp[au,vF],fun j h1=>by simp at h1,fun h1=>by simp at h1⟩
 |l::ls,[],n,k=>⟨0,by simp[au],by simp,by simp,fun h=>by simp at h,fun j h1 h2=>by simp at h2,fun h1 h2=>by simp at h2⟩
 |l::ls,x::b,n,k=>by
  rw[au]
  by_cases h:(Ld x 0 l).2=true
  ·rw[if_pos h]
   obtain⟨m,m1,m2,m3,m4,m5,m6⟩:=lH ls b (n+1) (k * ib 0 l+(Ld x 0 l).1);refine⟨m+1,by omega,by simp;omega,by simp;omega,fun he=> ?_,fun j h1 h2 hj=> ?_,fun h1 h2=> ?_⟩
   ·rw[lad,vF,if_pos h];exact m4 (by simpa using he)
   ·cases j with
    |zero=>exact h
    |succ j=>exact m5 j (by simpa using h1) (by simpa using h2) (by omega)
   ·exact m6 (by simpa using h1) (by simpa using h2)
  ·rw[kaa h]
   exact⟨0,rfl,by simp,by simp,fun he=>by simp at he,fun j h1 h2 hj=>by omega,fun h1 h2=>by simpa using h⟩
def cm:List Nb->List Int->Nat->Mv
 | [],bs,most=>if 0 < most/\most=bs.length then ⟨3,most,0⟩ else ⟨2,max most 1,0⟩
 |s::ss,bs,most=>if (au s.parts bs 0 0).1=s.parts.length then ⟨1,s.parts.length,s.first+(au s.parts bs 0 0).2⟩ else cm ss bs (max most (au s.parts bs 0 0).1)
theorem ZF{bs:List Int}:∀ {ss:List Nb}{i:Nat}(hi:i < ss.length)(most:Nat),(au ss[i].parts bs 0 0).1=ss[i].parts.length->(∀ j (hj:j < ss.length),j < i->(au ss[j].parts bs 0 0).1≠ss[j].parts.length)->cm ss bs most=⟨1,ss[i].parts.length,ss[i].first+(au ss[i].parts bs 0 0).2⟩
 |s::ss,0,hi,most,h,_=>by rw[cm];exact if_pos h
 |s::ss,i+1,hi,most,h,hn=>by rw[cm,kaa (show ¬(au s.parts bs 0 0).1=s.parts.length from hn 0 (by simp) (by omega))];exact ZF (ss:=ss) (by simpa using hi) _ h fun j hj E7=>hn (j+1) (by simpa using hj) (by omega)
theorem JA{bs:List Int}{M:Nat}:∀ {ss:List Nb}{most:Nat},(∀ s∈ss,(au s.parts bs 0 0).1≠s.parts.length/\(au s.parts bs 0 0).1<=M)->most<=M->(most=M\/∃ s∈ss,(au s.parts bs 0 0).1=M)->cm ss bs most=if 0 < M/\M=bs.length then ⟨3,M,0⟩ else ⟨2,max M 1,0⟩
 | [],most,_,hm,he=>by
   rcases he with rfl | ⟨s,hs,_⟩
   ·rfl
   ·cases hs
 |s::ss,most,h,hm,he=>by
  have hs:=h s (by simp);rw[cm,kaa hs.1];refine JA (fun t ht=>h t (by simp[ht])) (by omega) ?_;rcases he with rfl | ⟨t,ht,hte⟩
  ·exact .inl (by omega)
  ·rcases Xaa.1 ht with rfl | ht
   ·exact .inl (by omega)
   ·exact .inr ⟨t,ht,hte⟩
theorem y0{w:List Nat}{j:Nat}(h:j < (Cy w).length):(Cy w)[j]=((w[j]'(by simpa[Cy] using h):Nat):Int):=by simp[Cy]
theorem Ft(w:List Nat):(Cy w).length=w.length:=by simp[Cy]
theorem WG(w:List Nat)(n:Nat):(Cy w).take n=Cy (w.take n):=by simp[Cy,List.map_take]
section
variable {s:Nb}(hk:Be s)(w:List Nat)
include hk
theorem rW{j:Nat}(h1:j < s.parts.length)(h2:j < w.length):(Ld ((Cy w)[j]'(by rw[Ft];exact h2)) 0 s.parts[j]).2=Io s j w[j]:=by
 have hp:=hk.parts _ (jaa h1)
 rw[y0,wG hp];unfold Io;rw[aaa h1]
theorem WE:∃ m,(au s.parts (Cy w) 0 0).1=m/\m<=s.parts.length/\m<=w.length/\No s (w.take m)/\(m < w.length->¬No s (w.take (m+1)))/\(m=s.parts.length->Mi s (Cy (w.take m))=some (au s.parts (Cy w) 0 0).2):=by
 obtain⟨m,m1,m2,m3,m4,m5,m6⟩:=lH s.parts (Cy w) 0 0
 rw[Ft] at m3;refine⟨m,by omega,m2,m3,fun j x hj=> ?_,fun E7 hm=> ?_,fun he=> ?_⟩
 ·have hjl:=(iaa.1 hj)
  obtain⟨hjl,hx⟩:=hjl;rw[zab] at hjl;rw[List.getElem_take] at hx;have:=m5 j (by omega) (by rw[Ft];omega) (by omega);rw[rW hk w (by omega) (by omega),hx] at this;exact this
 ·have hx:=hm m w[m] (by rw[Fac (by omega),aaa E7])
  by_cases h1:m < s.parts.length
  ·have:=m6 h1 (by rw[Ft];exact E7)
   rw[rW hk w h1 E7,hx] at this;cases this
  ·exact h1 (mG hx)
 ·have:=m4 he
  rw[NF _ _ _ (by rw[WG,Ft,zab];omega),Int.zero_mul,WG] at this;unfold Mi;rw[if_pos (by rw[Ft,zab];omega)];exact this
end
theorem eR{s:Nb}{w:List Nat}(h:No s w):w.length<=s.parts.length:=by
 rcases Sac w.length with h0 | h0
 ·omega
 ·have:=mG (h (w.length - 1) w[w.length - 1] (aaa _))
  omega
theorem sC{s:Nb}{w:List Nat}{n m:Nat}(h:No s (w.take m))(hn:n<=m):No s (w.take n):=fun j x hj=>h j x (by
 rw[Gab] at hj ⊢
 split at hj
 ·rw[if_pos (by omega)];exact hj
 ·cases hj)
theorem mY{ss:List Nb}{l:List (List ae)}(Ba:Xb ss)(I7:Gf ss)(hinj:Fm ss)(ha:jg ss=some l){w:List Nat}(hw:Bytes w)(J7:w≠[]):cm ss (Cy w) 0=zu ss l (Cy w):=by
 obtain⟨m,hm,hc⟩:=CJ Ba I7 ha w hw;have hbt:∀ n,Bytes (w.take n):=fun n x hx=>hw x (uac hx);have hl:0 < w.length:=Sab.2 J7
 have Jad:∀ s∈ss,(au s.parts (Cy w) 0 0).1=s.parts.length->Full s (w.take s.parts.length)/\s.parts.length<=w.length/\Mi s (Cy (w.take s.parts.length))=some (au s.parts (Cy w) 0 0).2:=fun s hs he=>by
  obtain⟨n,n1,n2,n3,n4,_,n6⟩:=WE (Ba.dt s hs) w;have:n=s.parts.length:=by omega
  subst this;exact⟨⟨n4,by rw[zab];omega⟩,n3,n6 rfl⟩
 have F8:∀ s∈ss,∀ n,n<=w.length->No s (w.take n)->n<=(au s.parts (Cy w) 0 0).1:=fun s hs n hn hmt=>by
  obtain⟨k,k1,k2,k3,k4,k5,k6⟩:=WE (Ba.dt s hs) w;rcases Qaa k n with h | h
  ·exact absurd (sC hmt h) (k5 (by omega))
  ·omega
 have kac:(∀ s∈ss,¬Full s (w.take m))->(m=w.length\/∀ s∈ss,¬No s (w.take (m+1)))->(w.take m=[]\/∃ s∈ss,No s (w.take m))->∀ s∈ss,(au s.parts (Cy w) 0 0).1≠s.parts.length/\(au s.parts (Cy w) 0 0).1<=m:=by
  intro h1 h2 h3 s hs;have hup:(au s.parts (Cy w) 0 0).1<=m:=by
   obtain⟨k,k1,k2,k3,k4,k5,k6⟩:=WE (Ba.dt s hs) w;rcases h2 with h2 | h2
   ·omega
   ·rcases Qaa m k with h | h
    ·exact absurd (sC k4 h) (h2 s hs)
    ·omega
  refine⟨fun he=> ?_,hup⟩;obtain⟨f1,f2,_⟩:=Jad s hs he;rcases Qaa s.parts.length m with E7 | e9
  ·rcases h3 with h3 | ⟨t,ht,h3⟩
   ·have:=congrArg List.length h3
    rw[zab] at this;replace this:min m w.length=0:=this
    have:=(Ba.dt s hs).lo
    omega
   ·have hle:=eR h3
    rw[zab] at hle;exact GK Ba I7 hs ht (hbt s.parts.length) f1 (sC h3 (Nat.le_of_lt E7)) (by omega)
  ·have:s.parts.length=m:=by omega
   rw[this] at f1;exact h1 s hs f1
 have hM:(w.take m=[]\/∃ s∈ss,No s (w.take m))->(∀ s∈ss,(au s.parts (Cy w) 0 0).1<=m)->(0=m\/∃ s∈ss,(au s.parts (Cy w) 0 0).1=m):=by
  rintro (h | ⟨s,hs,h⟩) hle
  ·have:=congrArg List.length h
   rw[zab] at this;replace this:min m w.length=0:=this
   exact .inl (by omega)
  ·exact .inr ⟨s,hs,Nat.le_antisymm (hle s hs) (F8 s hs m hm h)⟩
 have Sai:(w.map fun (n:Nat)=>(n:Int))=Cy w:=rfl;rw[Sai] at hc;rcases hc with⟨c1,s,hs,hf⟩ | ⟨c1,c2,c3,c4⟩ | ⟨c1,c2,c3,c4,c5⟩
 ·
  obtain⟨i,hi,rfl⟩:=qab hs;have X7:ss[i].parts.length=m:=by rw[<- hf.2,zab];omega
  have hgi:(au ss[i].parts (Cy w) 0 0).1=ss[i].parts.length:=by
   have h1:=F8 _ hs m hm hf.1
   obtain⟨k,k1,k2,_⟩:=WE (Ba.dt _ hs) w;omega
  have Tai:∀ j (hj:j < ss.length),(au ss[j].parts (Cy w) 0 0).1=ss[j].parts.length->j=i:=fun j hj he=>by
   obtain⟨f1,f2,_⟩:=Jad _ (jaa hj) he;have h1:¬ss[j].parts.length < ss[i].parts.length:=fun E7=>GK Ba I7 (jaa hj) hs (hbt _) f1 (sC hf.1 (by omega)) E7
   have h2:¬ss[i].parts.length < ss[j].parts.length:=fun E7=>GK Ba I7 hs (jaa hj) (hbt _) hf (sC f1.1 (by omega)) E7
   have:ss[j].parts.length=m:=by omega
   rw[this] at f1;exact JR Ba hinj hj hi (hbt m) f1 hf
  rw[ZF hi 0 hgi fun j hj E7 he=>by have:=Tai j hj he;omega];obtain⟨_,_,hr⟩:=Jad _ hs hgi;have hd:Gu (Cy (w.take m)) ss=some (ss[i].first+(au ss[i].parts (Cy w) 0 0).2):=by
   rw[X7] at hr;refine FR hi hr fun j hj h=> ?_;have hfj:=(ZP (Ba.dt _ (jaa hj)) _).1 h
   exact JR Ba hinj hj hi (hbt m) hfj hf
  unfold zu;rw[c1,if_pos rfl,Daa,WG,hd,X7];rfl
 ·
  have ht:w.take m=w:=by rw[c2,sab]
  have h3:w.take m=[]\/∃ s∈ss,No s (w.take m):=by rw[ht];exact c3
  have hn:=kac (by rw[ht];exact c4) (.inl c2) h3;rw[JA hn (Jac _) (hM h3 fun s hs=>(hn s hs).2),if_pos ⟨by omega,by rw[Ft];exact c2⟩];unfold zu;rw[c1,kaa (by simp),if_pos rfl,Daa]
 ·have hn:=kac c4 (.inr c5) c3
  rw[JA hn (Jac _) (hM c3 fun s hs=>(hn s hs).2),kaa (by rw[Ft];omega)];unfold zu;rw[c1,kaa (by simp),kaa (by simp),Daa]
theorem OI{q:List Int}(hr:∀ x∈q,0<=x/\x<=255):Cy (q.map Int.toNat)=q:=by
 unfold Cy;rw[jad]
 conv=>rhs;rw[<- List.map_id q]
 exact iac fun x hx=>by have:=hr x hx;simp;omega
theorem RD{q:List Int}(hr:∀ x∈q,0<=x/\x<=255):Bytes (q.map Int.toNat):=by
 intro x hx;obtain⟨y,hy,rfl⟩:=fab.1 hx
 have:=hr y hy;omega
section
variable {ss:List Nb}{l:List (List ae)}(Ba:Xb ss)(I7:Gf ss)(ha:jg ss=some l)
include Ba I7 ha
theorem UE{q:List Int}(hr:∀ x∈q,0<=x/\x<=255){st:Int}(hs:stays l 0 q=some st):q.length < 8:=by
 have hm:=cy [] hs (i:=0);rw[wab,Zaa,Pg] at hm;obtain⟨m,_,hc⟩:=CJ Ba I7 ha (q.map Int.toNat) (RD hr);have hq:((q.map Int.toNat).map fun (n:Nat)=>(n:Int))=q:=OI hr;rw[hq,hm] at hc;have hlen:(q.map Int.toNat).length=q.length:=haa ..
 rcases hc with⟨c1,_⟩ | ⟨c1,c2,c3,c4⟩ | ⟨c1,_⟩
 ·simp at c1
 ·rcases c3 with c3 | ⟨s,hs,c3⟩
  ·have:=congrArg List.length c3
   rw[hlen] at this;simp at this;simp[this]
  ·have h1:=eR c3
   have h2:=(Ba.dt s hs).hi
   have h3:(q.map Int.toNat).length≠s.parts.length:=fun h=>c4 s hs ⟨c3,h⟩
   omega
 ·simp at c1
omit Ba I7 ha in
theorem WI:∀ {a b:List Int}{st st':Int},stays l st a=some st'->stays l st (a++b)=stays l st' b
 | [],b,st,st',h=>by injection h with h;subst h;rfl
 |x::a,b,st,st',h=>by
  rw[stays] at h
  split at h
  ·cases h
  ·next hn=>rw[bab,stays,kaa hn];exact WI h
theorem VQ{q:List Int}(hr:∀ x∈q,0<=x/\x<=255)(hs:stays l 0 q=some 0):q=[]:=by
 have xag:∀ n,stays l 0 (List.replicate n q).flatten=some 0:=by
  intro n
  induction n with
  |zero=>rfl
  |succ n ih=>rw[List.replicate_succ,Uab,WI hs];exact ih
 have:=UE Ba I7 ha (q:=(List.replicate 8 q).flatten) (fun x hx=>by
  obtain⟨y,hy,hxy⟩:=Hae.1 hx
  rw[Ead hy] at hxy;exact hr x hxy) (xag 8)
 have hl:(List.replicate 8 q).flatten.length=8 * q.length:=by simp;omega
 exact qaa (by omega)
end
section
variable (ss:List Nb)(l:List (List ae))
theorem T1{bs:List Int}(h:(zu ss l bs).kind=3):zu ss l bs=⟨3,bs.length,0⟩:=by
 obtain⟨k,k1,k2,k3⟩:=VC l bs 0 0;unfold zu at h ⊢;rcases k3 with⟨a,b⟩ | ⟨a,b⟩ | ⟨a,b⟩ <;> rw[a] at h ⊢ <;> simp at h ⊢
 omega
theorem Bv:∀ (n:Nat)(bs:List Int),bs.length<=n->ft ss l bs=(nf ss l bs).1++(if (nf ss l bs).2=[] then [] else [⟨3,(nf ss l bs).2.length,0⟩])/\
 (((nf ss l bs).1.map (·.size)).sum+(nf ss l bs).2.length=bs.length)/\(nf ss l bs).2=bs.drop ((nf ss l bs).1.map (·.size)).sum/\(∀ e∈(nf ss l bs).1,e.kind≠3)/\(nf ss l bs).1.length+(nf ss l bs).2.length<=bs.length
 |0,bs,h=>by have:bs=[]:=qaa (by omega);subst this;rw[Hz ss l (.inl rfl)];simp[fB]
 |n+1,bs,h=>by
  by_cases h1:bs=[]
  ·subst h1
   rw[Hz ss l (.inl rfl)];simp[fB]
  ·by_cases h3:(zu ss l bs).kind=3
   ·rw[Hz ss l (.inr h3),xD ss l h1,T1 ss l h3]
    simp[h1,fB]
   ·have hs:=wv ss l h1
    obtain⟨i1,i2,i3,i4,i5⟩:=Bv n (bs.drop (zu ss l bs).size) (by rw[Fab];omega);rw[yp ss l h1 h3,xD ss l h1,i1];rw[Fab] at i2 i5;refine⟨rfl,by simp only[lab,List.sum_cons];omega,by simp only[lab,List.sum_cons];rw[<- List.drop_drop];exact i3,fun e he=> ?_,by simp only[Oaa];omega⟩;rcases Xaa.1 he with rfl | he
    ·exact h3
    ·exact i4 e he
end
def VR(k:Nat)(f:St->Option (Ex×St))(Q:Ex×St->Prop):Ex×St->Prop
 | (.goto j,s)=>if j=k then qd Q (QF (f s)) else False
 |r=>Q r
theorem gX{Q:Ex×St->Prop}{k:Nat}{f:St->Option (Ex×St)}{r:Option (Ex×St)}:qd Q (zv k f r)=qd (VR k f Q) r:=by
 rcases r with _ | ⟨ex,s⟩
 ·rfl
 ·cases ex with
  |goto j=>show qd Q (if j=k then _ else _)=(if j=k then _ else _);by_cases h:j=k <;> simp[h,qd]
  |_=>rfl
def L2(Q:Ex×St->Prop):Ex×St->Prop
 | (.goto _,_)=>False
 |r=>Q r
theorem ZZ{Q:Ex×St->Prop}{r:Option (Ex×St)}:qd Q (QF r)=qd (L2 Q) r:=by
 rcases r with _ | ⟨ex,s⟩
 ·rfl
 ·cases ex <;> rfl
theorem xT{Q:Ex×St->Prop}{s:St}:L2 Q (.ret,s)=Q (.ret,s):=rfl
theorem mJ{k:Nat}{f:St->Option (Ex×St)}{Q:Ex×St->Prop}{s:St}:VR k f Q (.ret,s)=Q (.ret,s):=rfl
theorem IV{k:Nat}{f:St->Option (Ex×St)}{Q:Ex×St->Prop}{s:St}:VR k f Q (.goto k,s)=qd Q (QF (f s)):=by simp[VR]
section
variable {T:PV}{ss:List Nb}{l:List (List ae)}(hT:xo T ss l)(Ba:Xb ss)(ho:∀ e∈l,yj e)
variable {call call':Sa}{A:List ba}{d c:Nat}(hA:Wd A)(h2:JY A d c){bad Kc:Int}{ya fin:Bool}
 (h89:∀ H (k:Int),call 89 [.ptr d 0,.pv (i64 k)] H=ef call' Zb [.ptr d 0,.pv (i64 k)] H)
 (h81:∀ H (x:Int),call 81 [.ptr c 0,.pv (u8 x)] H=ef call' ve [.ptr c 0,.pv (u8 x)] H)
 {call'':Sa} (h82:∀ H (n:Int),call' 82 [.ptr c 0,.pv (i64 n)] H=ef call'' Qc [.ptr c 0,.pv (i64 n)] H) (h83:∀ H,call' 83 [.ptr c 0] H=ef call'' Cc [.ptr c 0] H)
include hT Ba hA h2 h89 h82 h83 h81 ho
theorem qX{st:Int}{at_:Nat}(u9:at_<=900000){buf q:List Int}{h:Nat}(hq:wo buf h q)(hl:q.length < 8)(hs:stays l 0 q=some st)(hz:st=0↔q=[]){x:Int}(hx:0<=x/\x<=255){X:List ba}(hX:Still X){B:List Mv×List Int}(hB:B=Kl ss l (bad==3) q st x):
 qd (fun r=>∃ (nl:Bool)(buf':List Int)(h':Nat)(st':Int)(Y:List ba),r=(.uq (A.length+X.length) nl 5 (Nc at_ B.1),Ul A d c (Lc T bad c st' ((at_+(B.1.map (·.size)).sum:Nat):Int) Kc ya fin) (We buf' 8 h' B.2.length) (X++Y))/\wo buf' h' B.2/\stays l 0 B.2=some st'/\Still Y/\(nl=true->B.1=[])/\Y≠[])
  (ef call Le [.ptr d 0,.pv (u8 x)] (Ul A d c (Lc T bad c st at_ Kc ya fin) (We buf 8 h q.length) X)):=by
 have gh:∀ E:Tr,E.get 5= .pv .ga->∀ o1 o2,fe (.MA 5 5) ⟨E,Ul A d c o1 o2 X⟩=some ⟨E.set 5 (.uq (A.length+X.length) true 5 []),Iw A d c o1 o2 X ([]:List PV).length true []⟩:=fun E h o1 o2=>by simp only[fe,h,sm,Nt];rfl
 unfold Kl at hB;have hj:=fun (st:Int)(at_:Nat)(u9:at_<=1000000)(buf q:List Int)(h:Nat)(hq:wo buf h q)(hl:q.length < 8)(h0:(Nd l st x).2=true\/st=0)(es:List PV)(hes:es.length<=1000000000)(nl:Bool)(Y:List ba)(hY:Still Y)(E:Tr)(g0:E.get 0= .ptr d 0)(g1:E.get 1= .pv (u8 x))(g5:E.get 5= .uq (A.length+X.length) nl 5 es)=>nV hT Ba ho hA h2 h89 h81 h82 h83 (bad:=bad) (Kc:=Kc) (ya:=ya) (fin:=fin) u9 hq hl hx h0 hX hes hY g0 g1 g5 rfl;have hjh:=fun (hg:(Nd l st x).2=false/\st≠0)(E:Tr)(g0:E.get 0= .ptr d 0)(g1:E.get 1= .pv (u8 x))(g5:E.get 5= .uq (A.length+X.length) true 5 [])=>NT hT Ba ho hA h2 h89 h82 h83 (bad:=bad) (Kc:=Kc) (ya:=ya) (fin:=fin) (at_:=at_) (by omega) hq hx hg hX (es:=[]) (by simp) (nl:=true) (Y:=[]) Still.nil g0 g1 g5
 generalize hQ:(fun r:AV×List ba=>∃ nl buf' h' st' Y,r=_/\_)=Q;simp -implicitDefEqProofs only[SX,sevalprocAttr,Le,MY,gX,bC,gh,Tr.aa]
 by_cases hg:(Nd l st x).2=false/\st≠0
 ·have Tal:q≠[]:=fun h=>hg.2 (hz.2 h)
  rw[kaa (by rw[hg.1];simp),kaa Tal] at hB;refine wa (hjh hg _ (by simp[Tr.aa]) (by simp[Tr.aa]) (by simp[Tr.aa])) ?_;rintro r ⟨E',Y',Iag,h1,rfl,r4,r5,r0,r1,rY,rq⟩
  by_cases h3:bad=3
  ·have e3:(bad==3)=true:=by rw[h3];rfl
   rw[if_pos h3];rw[e3,if_pos rfl] at hB;subst hB;simp -implicitDefEqProofs only[SX,sevalprocAttr,mJ,r4 h3];subst hQ;exact⟨false,Iag,h1,0,.tok 5 1 false::Y',by simp[Iw,Nc],rq,rfl,(Still.tok 5 1 false).cons rY,fun h=>(by cases h),by simp⟩
  ·have e3:(bad==3)=false:=beq_false_of_ne h3
   rw[kaa h3];rw[e3,kaa (by simp)] at hB;simp -implicitDefEqProofs only[SX,sevalprocAttr,IV,ZZ];have y9:(Nd l 0 x).2=true\/(0:Int)=0:= .inr rfl
   have hj2:=hj 0 (at_+q.length) (by omega) Iag [] h1 rq (by simp) y9 [ah ⟨2,q.length,0⟩ at_] (by simp) false Y' rY E' r0 r1 r5;refine wa (show qd _ (oa call Wb ⟨E',Iw A d c (Lc T bad c 0 ((at_+q.length:Nat):Int) Kc ya fin) (We Iag 8 h1 0) X 1 false Y'⟩) from hj2) ?_;rintro r ⟨E2,nl2,Ual,h2',Y2,rfl,u4,uq,uY,un⟩;have h2n:nl2=false:=by cases nl2 with | false=>rfl | true=>exact absurd (un rfl).1 (by simp)
   simp -implicitDefEqProofs only[SX,sevalprocAttr,xT,u4];subst hQ;subst h2n;have hb0:gA ss l x=((qq ss l [] 0 x).1,(qq ss l [] 0 x).2.1):=by
    unfold gA qq
    repeat' split
    all_goals first | rfl | contradiction
   have Jag:stays l 0 (qq ss l [] 0 x).2.1=some (qq ss l [] 0 x).2.2:=by
    unfold qq
    split
    ·next h1=>
     split
     ·rfl
     ·next h2=>rw[Yaa,stays,kaa (by rw[h1];simp[h2]),stays]
    ·rfl
   rw[hb0] at hB;subst hB;have ha1:at_+q.length+((qq ss l [] 0 x).1.map (·.size)).sum=at_+(((⟨2,q.length,0⟩:Mv)::(qq ss l [] 0 x).1).map (·.size)).sum:=by simp;omega
   refine⟨false,Ual,h2',_,.tok 5 ((Nc (at_+q.length) (qq ss l [] 0 x).1).length+1) false::Y2,?_,uq,Jag,(Still.tok 5 _ false).cons uY,fun h=>(by cases h),by simp⟩;rw[ha1];rfl
 ·have h0:(Nd l st x).2=true\/st=0:=by
   cases hc:(Nd l st x).2 with
   |true=>exact .inl rfl
   |false=>exact .inr (Wad fun h=>hg ⟨hc,h⟩)
  refine wa (hj st at_ (by omega) buf q h hq hl h0 [] (by simp) true [] Still.nil _ (by simp[Tr.aa]) (by simp[Tr.aa]) (by simp[Tr.aa])) ?_;rintro r ⟨E',nl',buf',h',Y',rfl,r4,rq,rY,rn⟩;simp -implicitDefEqProofs only[SX,sevalprocAttr,mJ,r4];subst hQ;have hb:B=((qq ss l q st x).1,(qq ss l q st x).2.1):=by
   rw[hB];unfold qq
   by_cases h1:(Nd l st x).2=true
   ·rw[if_pos h1,if_pos h1]
    by_cases h2:(Nd l st x).1= -1
    ·rw[if_pos h2,if_pos h2]
    ·rw[kaa h2,kaa h2]
   ·have hq0:=hz.1 (h0.resolve_left h1)
    rw[kaa h1,kaa h1,if_pos hq0,hq0];rfl
  have Jag:stays l 0 (qq ss l q st x).2.1=some (qq ss l q st x).2.2:=by
   unfold qq
   split
   ·next h1=>
    split
    ·rfl
    ·next h2=>exact vA hs h1 h2
   ·rfl
  rw[hb];exact⟨nl',buf',h',_,.tok 5 _ nl'::Y',rfl,rq,Jag,(Still.tok 5 _ nl').cons rY,fun h=>(rn h).2,by simp⟩
end
theorem eT{ss:List Nb}{l:List (List ae)}{h:List Int}{st x:Int}(hb:(Kl ss l true h st x).1.any Aq=true):(Kl ss l true h st x).1.length=1:=by
 unfold Kl at hb ⊢
 repeat' split
 all_goals first | rfl | (simp_all [Aq])
theorem OT{ss:List Nb}{l:List (List ae)}{s:Bool}{h:List Int}{st x:Int}:(Kl ss l s h st x).1.length<=2/\(Kl ss l s h st x).2.length<=h.length+1/\((Kl ss l s h st x).1.map (·.size)).sum+(Kl ss l s h st x).2.length<=h.length+1/\∀ y∈(Kl ss l s h st x).2,y∈h\/y=x:=by
 unfold Kl gA
 repeat' split
 all_goals simp
 all_goals first | omega | skip
def O2(k a n u:Int):ba:= .box ((Bo k a n u).map .pv)
section
variable {call:Sa}{A:List ba}{d c:Nat}(hA:Wd A)(h2:JY A d c){T:PV}{bad st at_ Kc:Int}{fin:Bool}{buf:List Int}{h m:Int}{X:List ba}(hX:Still X)
include hA h2 hX
theorem zQ{evs:List Mv}{p:Nat}(S7:bad=3->evs.any Aq=true->evs.length=1)(hlen:evs.length<=2){out:List PV}(D8:out.length<=1000000000){nl nl2:Bool}{Y:List ba}(hY:Still Y){B:AV}{n i:Int}{id2:Nat}(H7:id2 < A.length+X.length+1+Y.length)(hkB:AV.je (A.length+X.length+1+Y.length) deep B=true)
 {E0:Tr} (g0:E0.get 0= .ptr d 0) (g7:E0.get 7= .uq (A.length+X.length) nl 5 out) (g38:E0.get 38=B) (g39:E0.get 39= .pv (i64 n)) (g40:E0.get 40= .pv (i64 i)) (g46:E0.get 46= .uq id2 nl2 5 (Nc p evs)) (g47:E0.get 47= .pv (i64 evs.length)) (g48:E0.get 48= .pv (i64 0)):
 qd (fun r=>r.1.stop=true/\∃ E nl' Y',r=(if bad=3/\evs.any Aq=true then .exit 0 else .exit 2,⟨E,Iw A d c (Lc T bad c st at_ Kc (decide (bad=3/\evs.any Aq=true)) fin) (We buf 8 h m) X (out++Nc p evs).length nl' Y'⟩)/\Still Y'/\E.get 0= .ptr d 0/\E.get 7= .uq (A.length+X.length) nl' 5 (out++Nc p evs)/\E.get 38=B/\E.get 39= .pv (i64 n)/\E.get 40= .pv (i64 i)/\(nl'=true->nl=true/\evs=[]))
  (oa call (.loop [0,7,38,39,40,46,47,48] He) ⟨E0,Iw A d c (Lc T bad c st at_ Kc false fin) (We buf 8 h m) X out.length nl Y⟩):=by
 obtain⟨K,hK⟩:∃ K:ba->Nat->Bool->List ba->List ba,K=fun o1 m' nl Y=>Iw A d c o1 (We buf 8 h m) X m' nl Y:=⟨_,rfl⟩;have hK':∀ o1 m' nl Y,Iw A d c o1 (We buf 8 h m) X m' nl Y=K o1 m' nl Y:=fun o1 m' nl Y=>by rw[hK]
 have gd:∀ o1 m' nl Y,(K o1 m' nl Y)[d]? =some o1:=fun o1 m' nl Y=>by rw[hK];exact OD h2
 have sd:∀ o1 m' nl Y o,(K o1 m' nl Y).set d o=K o m' nl Y:=fun o1 m' nl Y o=>by rw[hK];exact rG h2
 have kl:∀ o1 m' nl Y,(K o1 m' nl Y).length=A.length+X.length+1+Y.length:=fun o1 m' nl Y=>by rw[hK];show (Ul _ _ _ _ _ _).length=_;rw[sm];simp;omega
 have kx:∀ o1 m' nl Y Z,K o1 m' nl Y++Z=K o1 m' nl (Y++Z):=fun o1 m' nl Y Z=>by rw[hK];show Ul _ _ _ _ _ _++_=Ul _ _ _ _ _ _;rw[Nt,Dab];rfl
 have kg:∀ sp m' nl Y,Still Y->Wd (K (Lc T bad c st at_ Kc sp fin) m' nl Y):=fun sp m' nl Y hY=>by rw[hK];exact Yy hA h2 (hX.Iw hY)
 have kbx:∀ o1 m' nl Y r,(K o1 m' nl (Y++[.box (List.map AV.pv r)]))[A.length+X.length+1+Y.length]? =some (.box (r.map .pv)):=fun o1 m' nl Y r=>by rw[<- kx,Kaa (by rw[kl];exact paa _),kl,ead];rfl
 have kbs:∀ o1 m' nl Y r r',(K o1 m' nl (Y++[.box (List.map AV.pv r)])).set (A.length+X.length+1+Y.length) (.box (r'.map .pv))=K o1 m' nl (Y++[.box (List.map AV.pv r')]):=fun o1 m' nl Y r r'=>by rw[<- kx,Jab _ _ (by rw[kl];exact paa _),kl,ead,<-kx];rfl
 have pd:∀ sp m' nl Y k,place (K (Lc T bad c st at_ Kc sp fin) m' nl Y) k (.ptr d 0)=some (.ptr d k):=fun sp m' nl Y k=>zH (gd _ _ _ _) k;have ldd:=fun sp m' nl Y=>WA (gd (Lc T bad c st at_ Kc sp fin) m' nl Y);have s6:∀ sp m' nl Y (v:Bool),Ha (K (Lc T bad c st at_ Kc sp fin) m' nl Y) 1 (.ptr d 6) (.pv (.bool v))=some (K (Lc T bad c st at_ Kc v fin) m' nl Y):=fun sp m' nl Y v=>by rw[X5 (gd _ _ _ _),sd]
 simp only[hK'];refine yo (σ:=Nat×List PV×Bool) (fun x=>[(0,.ptr d 0),(7,.uq (A.length+X.length) x.2.2 5 x.2.1),(38,B),(39,.pv (i64 n)),(40,.pv (i64 i)),(46,.uq id2 nl2 5 (Nc p evs)),(47,.pv (i64 evs.length)),(48,.pv (i64 x.1))])
  (fun x=>K (Lc T bad c st at_ Kc false fin) x.2.1.length x.2.2 Y) (fun k x=>x.1=k/\x.2.1=out++(Nc p evs).take k/\(x.2.2=true->nl=true/\k=0)/\(bad=3->evs.any Aq=true->k=0)) evs.length (by unfold ua;omega) (fun _=>rfl) ?_ ?_ ?_ ?_
 ·rintro k x _
  rw[kl,kl];have:=h2.ld
  exact⟨by simp[Cj,Kn,Mz,H7,hkB,show d < A.length+X.length+1+Y.length by omega,show A.length+X.length < A.length+X.length+1+Y.length by omega],fun o ho=>kg _ _ _ _ hY _ (by rw[kl];exact paa _) o ho,rfl⟩
 ·exact⟨(0,out,nl),⟨g0,g7,g38,g39,g40,g46,g47,g48,trivial⟩,rfl,rfl,by simp,fun h=>⟨h,rfl⟩,fun _ _=>rfl⟩
 ·rintro _ ⟨k,acc,nl'⟩ E hi ⟨rfl,Naa,j8,Y7⟩ ⟨g0,g7,g38,g39,g40,g46,g47,g48,_⟩
  simp only at hi Naa j8 Y7 g0 g7 g38 g39 g40 g46 g47 g48;obtain⟨pl,F7⟩:=tF p evs k hi;have hL:(Nc p evs).length=evs.length:=cg p evs
  have o8:(Nc p evs).take (k+1)=(Nc p evs).take k++[ah evs[k] pl]:=by rw[xae,F7];rfl
  have J9:evs[k].kind=2->evs.any Aq=true:=fun h=>Rad.2 ⟨_,jaa hi,by simp[Aq,h]⟩
  have hnb:bad=3->evs[k].kind≠2->evs.any Aq=false:=fun h3 H8=>by
   cases hb:evs.any Aq with
   |false=>rfl
   |true=>
    have h1:=S7 h3 hb
    match evs,h1,hi,H8,hb,Y7 h3 hb with
    | [e],_,hi,H8,hb,hk0=>subst hk0;simp[Aq] at hb H8;exact absurd hb H8
  have hal:acc.length<=1000000002:=by rw[Naa,raa,zab];omega
  have e1:decide ((k:Int) < (evs.length:Int))=true:=Ea (by omega);have t1:IntKind.i64.wrap ((k:Int)+1)=((k+1:Nat):Int):=sg (by omega)
  have a1:∀ H,ta H 5 (.uq id2 nl2 5 (Nc p evs)) (k:Int)=some (.pv (.rp (Bo evs[k].kind pl evs[k].size evs[k].u) 0)):=fun H=>by simp only[ta];rw[if_pos ⟨trivial,by unfold Ia;omega⟩,Daa,F7];rfl
  have a2:∀ H,pa H true 5 (.pv (.rp (Bo evs[k].kind pl evs[k].size evs[k].u) 0))=some (.pv (ah evs[k] pl)):=fun H=>rfl;have hz:∀ o1 m' nl,K o1 m' nl Y++[.box [.pv (.int .i64 0),.pv (.int .i64 0),.pv (.int .i64 0),.pv (.int .i64 0),.pv (.int .i64 0)]]=K o1 m' nl (Y++[O2 0 0 0 0]):=fun o1 m' nl=>kx o1 m' nl Y _;have sT:∀ m' nl,Ha (K (Lc T bad c st at_ Kc false fin) m' nl (Y++[O2 0 0 0 0])) 5 (.ptr (A.length+X.length+1+Y.length) 0) (.pv (ah evs[k] pl))=some (K (Lc T bad c st at_ Kc false fin) m' nl (Y++[O2 evs[k].kind pl evs[k].size evs[k].u])):=fun m' nl=>by have:=HL (b:=Bo evs[k].kind pl evs[k].size evs[k].u) (kbx (Lc T bad c st at_ Kc false fin) m' nl Y (Bo 0 0 0 0)) rfl rfl FK;rw[kbs] at this;exact this
  have lT:∀ m' nl,pa (K (Lc T bad c st at_ Kc false fin) m' nl (Y++[O2 evs[k].kind pl evs[k].size evs[k].u])) true 5 (.ptr (A.length+X.length+1+Y.length) 0)=some (.pv (ah evs[k] pl)):=fun m' nl=>SL (kbx _ _ _ _ _) rfl;have pe:∀ m' nl j,place (K (Lc T bad c st at_ Kc false fin) m' nl (Y++[O2 evs[k].kind pl evs[k].size evs[k].u])) j (.ptr (A.length+X.length+1+Y.length) 0)=some (.ptr (A.length+X.length+1+Y.length) j):=fun m' nl j=>qx (kbx _ _ _ _ _) j;have l0:∀ m' nl,pa (K (Lc T bad c st at_ Kc false fin) m' nl (Y++[O2 evs[k].kind pl evs[k].size evs[k].u])) false 1 (.ptr (A.length+X.length+1+Y.length) 0)=some (.pv (i64 evs[k].kind)):=fun m' nl=>vr (kbx _ _ _ _ _) rfl;have ap:∀ Y e,Cb (K (Lc T bad c st at_ Kc false fin) acc.length nl' Y) false .uq 5 true 40 (.uq (A.length+X.length) nl' 5 acc) (.pv (.lit 5 [e]))=some (.uq (A.length+X.length) false 5 (acc++[e]),K (Lc T bad c st at_ Kc false fin) (acc++[e]).length false Y):=fun Y e=>by rw[hK];exact FP e rfl (by omega)
  have bsl:∀ (e:Mv)(a:Int)(H:List ba),((if (List.map AV.pv (ah e a).cells).length=5/\(List.map AV.pv (ah e a).cells).all AV.one=true then some (fa [AV.pv (PV.int IntKind.i64 0),AV.pv (PV.int IntKind.i64 0),AV.pv (PV.int IntKind.i64 0),AV.pv (PV.int IntKind.i64 0),AV.pv (PV.int IntKind.i64 0)] 0 (List.map AV.pv (ah e a).cells)) else none).bind fun cs=>
   if cs.all AV.one=true then Option.map (fun ps=>(AV.pv (PV.lit 5 [PV.agg (List.take 5 ps)]),H)) (Tc cs) else none)=some (.pv (.lit 5 [ah e a]),H):=fun e a H=>rfl
  have hYb:=hY.app (Still.box (Bo evs[k].kind pl evs[k].size evs[k].u))
  clear hK hK' gd sd kbx kbs;generalize evs[k]=e at *;generalize hQ:RH _ _ _ _=Q
  by_cases H8:e.kind=2
  ·have e2:(e.kind==2)=true:=by rw[H8];rfl
   by_cases h3:bad=3
   ·have e3:(bad==3)=true:=by rw[h3];rfl
    simp -implicitDefEqProofs only[SX,sevalprocAttr,He,g0,g7,g38,g39,g40,g46,g47,g48,e1,a1,a2,hz,kl,sT,lT,bsl,ap,pe,l0,e2,pd,ldd,e3,s6];subst hQ;have hk0:=Y7 h3 (J9 H8);have h1:=S7 h3 (J9 H8);subst hk0;have hw:acc++[ah e pl]=out++Nc p evs:=by
     rw[Naa,Dab]
     congr 1
     rw[<- o8,Saa (by omega)]
    rw[if_pos ⟨h3,J9 H8⟩,decide_eq_true ⟨h3,J9 H8⟩,<-hw];exact⟨_,false,_,rfl,hYb,by simp[Tr.aa,g0],by simp[Tr.aa],by simp[Tr.aa,g38],by simp[Tr.aa,g39],by simp[Tr.aa,g40],fun h=>by cases h⟩
   ·have e3:(bad==3)=false:=beq_false_of_ne h3
    simp -implicitDefEqProofs only[SX,sevalprocAttr,He,g0,g7,g38,g39,g40,g46,g47,g48,e1,a1,a2,hz,kl,sT,lT,bsl,ap,pe,l0,e2,pd,ldd,e3,t1];subst hQ;exact⟨(k+1,acc++[ah e pl],false),[O2 e.kind pl e.size e.u],by simp[Has,Tr.aa,g0,g38,g39,g40,g46,g47],(kx _ _ _ _ _).symm,rfl,by rw[o8,Naa,Dab],(fun h=>by cases h),fun h=>absurd h h3⟩
  ·have e2:(e.kind==2)=false:=beq_false_of_ne H8
   simp -implicitDefEqProofs only[SX,sevalprocAttr,He,g0,g7,g38,g39,g40,g46,g47,g48,e1,a1,a2,hz,kl,sT,lT,bsl,ap,pe,l0,e2,pd,ldd,t1];subst hQ;exact⟨(k+1,acc++[ah e pl],false),[O2 e.kind pl e.size e.u],by simp[Has,Tr.aa,g0,g38,g39,g40,g46,g47],(kx _ _ _ _ _).symm,rfl,by rw[o8,Naa,Dab],(fun h=>by cases h),fun h3 h=>by rw[hnb h3 H8] at h;cases h⟩
 ·rintro⟨k,acc,nl'⟩ E ⟨hk,Naa,j8,Y7⟩ ⟨g0,g7,g38,g39,g40,g46,g47,g48,_⟩
  simp only at hk Naa j8 Y7 g0 g7 g38 g39 g40 g46 g47 g48 ⊢;subst hk;have hL:(Nc p evs).length=evs.length:=cg p evs
  rw[Saa (by omega)] at Naa;have hno:¬(bad=3/\evs.any Aq=true):=fun h=>by
   have:=Y7 h.1 h.2
   have:=S7 h.1 h.2
   omega
  rw[kaa hno,decide_eq_false hno];have e1:decide ((evs.length:Int) < (evs.length:Int))=false:=Ga (by omega);generalize hQ:(fun r:Ex×St=>r.1.stop=true/\_)=Q;simp -implicitDefEqProofs only[SX,sevalprocAttr,He,g47,g48,e1];subst hQ;subst Naa;exact⟨rfl,_,nl',Y,rfl,hY,by simp[Tr.aa,g0],by simp[Tr.aa,g7],by simp[Tr.aa,g38],by simp[Tr.aa,g39],by simp[Tr.aa,g40],fun h=>⟨(j8 h).1,qaa (j8 h).2⟩⟩
end
def Az(l:List Mv):Nat:=(l.map (·.size)).sum
theorem NL(a b:List Mv):Az (a++b)=Az a+Az b:=by simp[Az]
structure cI(U:AV)(bs:List Int)(n0:Nat):Prop where
 len:∀ H,Tb H 0 U=some bs.length
 C5:∀ H (i:Nat) (h:i < bs.length),ta H 1 U (i:Int)=some (.pv (.rp [u8 bs[i]] 0))
 je:∀ n,n0<=n->AV.je n deep U=true
 Sy:∀ b∈bs,0<=b/\b<=255
theorem cI.of{B:PV}{bs:List Int}(h:lk B bs)(n0:Nat):cI (.pv B) bs n0:=⟨h.Tb,fun H i hi=>h.Pd hi H,fun n _=>Cj B,h.Sy⟩
theorem cI.uq{bs:List Int}(hr:∀ b∈bs,0<=b/\b<=255){id n0:Nat}(nl:Bool)(h:id < n0):cI (.uq id nl 1 (bs.map u8)) bs n0:=by
 refine⟨fun H=>by simp[Tb],fun H i hi=> ?_,fun n hn=>Mz (by omega),hr⟩;simp only[ta];rw[if_pos ⟨trivial,by unfold Ia;rw[haa];omega⟩,Daa,Eaa,aaa hi];rfl
section
variable {T:PV}{ss:List Nb}{l:List (List ae)}(hT:xo T ss l)(Ba:Xb ss)(ho:∀ e∈l,yj e)(I7:Gf ss)(ha:jg ss=some l)
variable {call call' call'' call3:Sa}{A:List ba}{d c:Nat}(hA:Wd A)(h2:JY A d c){bad Kc:Int}{ya fin:Bool}
 (h90:∀ H (x:Int),call 90 [.ptr d 0,.pv (u8 x)] H=ef call' Le [.ptr d 0,.pv (u8 x)] H)
 (h89:∀ H (k:Int),call' 89 [.ptr d 0,.pv (i64 k)] H=ef call'' Zb [.ptr d 0,.pv (i64 k)] H)
 (h81:∀ H (x:Int),call' 81 [.ptr c 0,.pv (u8 x)] H=ef call'' ve [.ptr c 0,.pv (u8 x)] H)
 (h82:∀ H (n:Int),call'' 82 [.ptr c 0,.pv (i64 n)] H=ef call3 Qc [.ptr c 0,.pv (i64 n)] H) (h83:∀ H,call'' 83 [.ptr c 0] H=ef call3 Cc [.ptr c 0] H)
include hT Ba ho I7 ha hA h2 h90 h89 h81 h82 h83
theorem OO{a0:Nat}(ha0:a0<=65536){B:AV}{bs:List Int}(hB:cI B bs A.length)(hbs:bs.length<=65536){X:List ba}(hX:Still X){xE q0:List Int}{h0:Nat}{st0:Int}(hq0:wo xE h0 q0)(hs0:stays l 0 q0=some st0)
 {E0:Tr} (g0:E0.get 0= .ptr d 0) (g7:E0.get 7= .uq (A.length+X.length) true 5 []) (g38:E0.get 38=B) (g39:E0.get 39= .pv (i64 bs.length)) (g40:E0.get 40= .pv (i64 0)):
 qd (fun r=>r.1.stop=true/\∃ (E:Tr)(nl:Bool)(Y:List ba)(buf q:List Int)(h:Nat)(st:Int)(out:List Mv)(sp:Bool),r=(.exit 0,⟨E,Iw A d c (Lc T bad c st ((a0+Az out:Nat):Int) Kc sp fin) (We buf 8 h q.length) X (Nc a0 out).length nl Y⟩)/\E.get 7= .uq (A.length+X.length) nl 5 (Nc a0 out)/\Still Y/\wo buf h q/\stays l 0 q=some st/\
  Hl ss l (bad==3) q0 bs=(out,q,sp)/\(nl=true->out=[]))
  (oa call (.loop [0,7,38,39,40] th) ⟨E0,Iw A d c (Lc T bad c st0 a0 Kc false fin) (We xE 8 h0 q0.length) X 0 true []⟩):=by
 have hlB:=hB.len
 have hq8:=UE Ba I7 ha hq0.Sy hs0
 refine yo (σ:=Nat×List Int×Nat×List Int×Int×List Mv×Bool) (fun x=>[(0,.ptr d 0),(7,.uq (A.length+X.length) x.2.2.2.2.2.2 5 (Nc a0 x.2.2.2.2.2.1)),(38,B),(39,.pv (i64 bs.length)),(40,.pv (i64 x.1))])
  (fun x=>Iw A d c (Lc T bad c x.2.2.2.2.1 ((a0+Az x.2.2.2.2.2.1:Nat):Int) Kc false fin) (We x.2.1 8 x.2.2.1 x.2.2.2.1.length) X (Nc a0 x.2.2.2.2.2.1).length x.2.2.2.2.2.2 [])
  (fun k x=>x.1=k/\wo x.2.1 x.2.2.1 x.2.2.2.1/\stays l 0 x.2.2.2.1=some x.2.2.2.2.1/\Hl ss l (bad==3) q0 bs=(x.2.2.2.2.2.1++(Hl ss l (bad==3) x.2.2.2.1 (bs.drop k)).1,(Hl ss l (bad==3) x.2.2.2.1 (bs.drop k)).2)/\(x.2.2.2.2.2.2=true->x.2.2.2.2.2.1=[])/\Az x.2.2.2.2.2.1+x.2.2.2.1.length<=q0.length+k/\x.2.2.2.2.2.1.length<=2 * k)
  bs.length (by unfold ua;omega) (fun _=>rfl) ?_ ?_ ?_ ?_
 ·rintro k x _
  have hl:∀ o1 o2 n nl,(Iw A d c o1 o2 X n nl []).length=A.length+X.length+1:=fun o1 o2 n nl=>by unfold Iw;rw[sm];simp;omega
  rw[hl,hl];have:=h2.ld
  exact⟨by simp[Cj,Kn,Mz,hB.je (A.length+X.length+1) (by omega),show d < A.length+X.length+1 by omega,show A.length+X.length < A.length+X.length+1 by omega],fun o ho'=>Yy hA h2 (hX.Iw Still.nil) _ (by rw[sm];simp;omega) o ho',rfl⟩
 ·exact⟨(0,xE,h0,q0,st0,[],true),⟨g0,g7,g38,g39,g40,trivial⟩,rfl,rfl,hq0,hs0,rfl,fun _=>rfl,by simp[Az],paa _⟩
 ·rintro _ ⟨i,buf,h,q,st,out,nl⟩ E hi ⟨rfl,hq,hs,hf,j8,L7,hol⟩ ⟨g0,g7,g38,g39,g40,_⟩
  simp only at hi hq hs hf j8 L7 hol g0 g7 g38 g39 g40;have Val:=UE Ba I7 ha hq.Sy hs
  have hx:=hB.Sy _ (jaa hi)
  have hz:st=0↔q=[]:=⟨fun h=>VQ Ba I7 ha hq.Sy (by rw[hs,h]),fun h=>by subst h;injection hs with hs;exact hs.symm⟩;have e1:decide ((i:Int) < (bs.length:Int))=true:=Ea (by omega);have t1:IntKind.i64.wrap ((i:Int)+1)=((i+1:Nat):Int):=sg (by omega)
  have hia:=fun H=>hB.C5 H i hi
  rw[Paa hi,Hl,hs,Tac] at hf;generalize bs[i]=x at *;have hX1:Still (X++[.tok 5 (Nc a0 out).length nl]):=hX.app (Still.tok _ _ _)
  obtain⟨Bt,hBt⟩:∃ Bt,Bt=Kl ss l (bad==3) q st x:=⟨_,rfl⟩;obtain⟨r,hr,nl2,buf',h',st',Y,rfl,hq',hs',hY,hn2,hYn⟩:=wc (qX hT Ba ho hA h2 h89 h81 h82 h83 (bad:=bad) (Kc:=Kc) (ya:=false) (fin:=fin) (at_:=a0+Az out) (by omega) hq Val hs hz hx hX1 hBt);rw[<- h90] at hr;rw[<- hBt] at hf;have L8:=OT (ss:=ss) (l:=l) (s:=bad==3) (h:=q) (st:=st) (x:=x);rw[<- hBt] at L8;have hlx:(X++[ba.tok 5 (Nc a0 out).length nl]).length=X.length+1:=by simp
  have hYl:0 < Y.length:=Sab.2 hYn
  have S7:bad=3->Bt.1.any Aq=true->Bt.1.length=1:=fun h3 hb=>by
   have e3:(bad==3)=true:=by rw[h3];rfl
   rw[e3] at hBt;rw[hBt] at hb ⊢;exact eT hb
  have s8:Ul A d c (Lc T bad c st' ((a0+Az out+(Bt.1.map (·.size)).sum:Nat):Int) Kc false fin) (We buf' 8 h' Bt.2.length) ((X++[ba.tok 5 (Nc a0 out).length nl])++Y)=Iw A d c (Lc T bad c st' ((a0+Az out+(Bt.1.map (·.size)).sum:Nat):Int) Kc false fin) (We buf' 8 h' Bt.2.length) X (Nc a0 out).length nl Y:=by unfold Iw;rw[Dab];rfl
  rw[s8,hlx] at hr;have R8:call 90 [.ptr d 0,.pv (u8 x)] (Iw A d c (Lc T bad c st ((a0+Az out:Nat):Int) Kc false fin) (We buf 8 h q.length) X (Nc a0 out).length nl [])=some (.uq (A.length+(X.length+1)) nl2 5 (Nc (a0+Az out) Bt.1),Iw A d c (Lc T bad c st' ((a0+Az out+(Bt.1.map (·.size)).sum:Nat):Int) Kc false fin) (We buf' 8 h' Bt.2.length) X (Nc a0 out).length nl Y):=hr;have b9:=fun E0=>zQ (call:=call) (bad:=bad) (st:=st') (at_:=((a0+Az out+(Bt.1.map (·.size)).sum:Nat):Int)) (Kc:=Kc) (fin:=fin) (buf:=buf') (h:=h') (m:=Bt.2.length) hA h2 (T:=T) hX (p:=a0+Az out) S7 L8.1 (out:=Nc a0 out) (by rw[cg];omega) (nl:=nl) (nl2:=nl2) hY (B:=B) (n:=bs.length) (i:=i) (id2:=A.length+(X.length+1)) (by omega) (hB.je _ (by omega)) (E0:=E0)
  have Wai:Nc a0 out++Nc (a0+Az out) Bt.1=Nc a0 (out++Bt.1):=(nB a0 out Bt.1).symm
  have Wal:a0+Az out+(Bt.1.map (·.size)).sum=a0+Az (out++Bt.1):=by rw[NL];show _+_+Az Bt.1=_;omega
  have Zaq:(Bt.1.map (·.size)).sum=Az Bt.1:=rfl
  generalize hQ:RH _ _ _ _=Q;simp -implicitDefEqProofs only[SX,sevalprocAttr,-List.reduceReplicate,th,g0,g7,g38,g39,g40,e1,hia,Wa,R8,RE];refine wa (b9 _ (by simp[Tr.aa,g0]) (by simp[Tr.aa,g7]) (by simp[Tr.aa,g38]) (by simp[Tr.aa,g39]) (by simp[Tr.aa,g40]) (by simp[Tr.aa]) (by simp[Tr.aa,cg]) (by simp[Tr.aa])) ?_;rintro r ⟨_,E2,O9,Y3,rfl,hY3,r0,r7,r38,r39,r40,rn⟩;rw[Wai] at r7;rw[Wai,Wal]
  by_cases hsp:bad=3/\Bt.1.any Aq=true
  ·have e3:(bad==3)=true:=by rw[hsp.1];rfl
   rw[if_pos hsp,decide_eq_true hsp];simp -implicitDefEqProofs only[SX,sevalprocAttr,-List.reduceReplicate];subst hQ;simp only[e3,hsp.2,fae,if_true] at hf;refine⟨E2,O9,Y3,buf',Bt.2,h',st',out++Bt.1,true,rfl,r7,hY3,hq',hs',by rw[e3];exact hf,fun h=> ?_⟩;rw[j8 (rn h).1,(rn h).2];rfl
  ·have e3:(bad==3&&Bt.1.any Aq)=false:=by
    cases hb:(bad==3) with
    |false=>rfl
    |true=>
     have:bad=3:=by simpa using hb
     cases hc:Bt.1.any Aq with
     |false=>rfl
     |true=>exact absurd ⟨this,hc⟩ hsp
   rw[kaa hsp,decide_eq_false hsp];simp -implicitDefEqProofs only[SX,sevalprocAttr,-List.reduceReplicate,r0,r7,r38,r39,r40,t1];subst hQ;rw[e3,kaa (by simp)] at hf;refine⟨(i+1,buf',h',Bt.2,st',out++Bt.1,O9),Y3,by simp[Has,Tr.aa,r0,r7,r38,r39],?_,rfl,hq',hs',?_,fun h=> ?_,?_,?_⟩
   ·show _=Ul _ _ _ _ _ _++_
    rw[Nt,Dab];rfl
   ·rw[hf];simp only[Dab]
   ·rw[j8 (rn h).1,(rn h).2];rfl
   ·have:=L8.2.2.1
    show Az (out++Bt.1)+Bt.2.length<=_
    rw[NL];omega
   ·show (out++Bt.1).length<=_
    rw[raa];omega
 ·rintro⟨i,buf,h,q,st,out,nl⟩ E ⟨rfl,hq,hs,hf,j8,L7,hol⟩ ⟨g0,g7,g38,g39,g40,_⟩
  simp only at hq hs hf j8 L7 hol g0 g7 g38 g39 g40 ⊢;have e1:decide ((bs.length:Int) < (bs.length:Int))=false:=Ga (by omega);rw[vab,Hl,wab] at hf;generalize hQ:(fun r:Ex×St=>r.1.stop=true/\_)=Q;simp -implicitDefEqProofs only[SX,sevalprocAttr,-List.reduceReplicate,th,g39,g40,e1];subst hQ;exact⟨rfl,_,nl,[],buf,q,h,st,out,false,rfl,by simp[Tr.aa,g7],Still.nil,hq,hs,hf,j8⟩
structure tR where
 buf:List Int
 h:Nat
 q:List Int
 st:Int
 at_:Nat
 Kc:Int
 ya:Bool
 fin:Bool
theorem JK{s:tR}(hd:A[d]? =some (Lc T bad c s.st s.at_ s.Kc false false))(hc:A[c]? =some (We s.buf 8 s.h s.q.length))(hq:wo s.buf s.h s.q)(hs:stays l 0 s.q=some s.st){U:AV}{bs:List Int}(hU:cI U bs A.length)
 (ht0:0<=s.Kc) (ht1:s.Kc+bs.length<=65536) (u9:s.at_<=65536):
 qd (fun r=>∃ (nl:Bool)(Y:List ba)(buf q:List Int)(h:Nat)(st:Int)(out:List Mv)(sp:Bool),r=(.mc [.uq A.length nl 5 (Nc s.at_ out),.pv (i64 0)],Ul A d c (Lc T bad c st ((s.at_+Az out:Nat):Int) (s.Kc+bs.length) sp false) (We buf 8 h q.length) Y)/\Still Y/\wo buf h q/\stays l 0 q=some st/\
  Hl ss l (bad==3) s.q bs=(out,q,sp)/\(nl=true->out=[])/\0 < Y.length)
  (ef call Rf [.ptr d 0,U] A):=by
 have lU:=hU.len
 have tp:=uC hd hc;have pd:=zH hd;have ld:=WA hd;have hf:=vG (T:=T) (bad:=bad) (C:= .rp (Yh s.buf 8 s.h s.q.length) 0) (st:=s.st) (at_:=s.at_) (Kc:=s.Kc) (ya:=false) (fin:=false);rw[kaa (by simp),kaa (by simp)] at hf;have w1:IntKind.i64.wrap (65536 - s.Kc)=65536 - s.Kc:=Aa (by omega)
 have w2:IntKind.i64.wrap (s.Kc+(bs.length:Int))=s.Kc+bs.length:=Aa (by omega)
 have fl:∀ n:Int,Nj (i64 n)=true:=fun n=>rfl;have d1:decide ((bs.length:Int) > 65536 - s.Kc)=false:=decide_eq_false (by omega);have z0:((0:Int)==0)=true:=rfl;have z1:((0:Int) != 0)=false:=rfl;have s5:Ha A 1 (.ptr d 5) (.pv (.int .i64 (s.Kc+bs.length)))=some (Ul A d c (Lc T bad c s.st s.at_ (s.Kc+bs.length) false false) (We s.buf 8 s.h s.q.length) []):=by
  rw[R5 hd]
  congr 1
  unfold Ul;rw[wab];obtain⟨hl,hg⟩:=iaa.1 hc
  have:(A.set d (Lc T bad c s.st s.at_ (s.Kc+bs.length) false false))[c]? =some (We s.buf 8 s.h s.q.length):=by rw[Gaa h2.ne];exact hc
  obtain⟨Z8,hg'⟩:=iaa.1 this
  rw[<- hg'];exact (List.set_getElem_self _).symm
 have gh:∀ E:Tr,E.get 7= .pv .ga->∀ o1 o2,fe (.MA 7 5) ⟨E,Ul A d c o1 o2 []⟩=some ⟨E.set 7 (.uq A.length true 5 []),Iw A d c o1 o2 [] 0 true []⟩:=fun E h o1 o2=>by simp only[fe,h,sm,Nt];rfl
 have D7:=fun E0=>OO (call:=call) (call':=call') (call'':=call'') (call3:=call3) hT Ba ho I7 ha hA h2 h90 h89 h81 h82 h83 (bad:=bad) (Kc:=s.Kc+bs.length) (fin:=false) (a0:=s.at_) u9 hU (by omega) (X:=[]) Still.nil hq hs (E0:=E0)
 generalize Yq T bad (.rp (Yh s.buf 8 s.h s.q.length) 0) s.st s.at_ s.Kc false false=row at *
 generalize hQ:(fun r:AV×List ba=>∃ (nl:Bool)(Y:List ba)(buf q:List Int)(h:Nat)(st:Int)(out:List Mv)(sp:Bool),r=_/\_)=Q;simp -implicitDefEqProofs only[SP,WP,sevalprocAttr,-List.reduceReplicate,Rf,lU,tp,pd,ld,hf,fl,w1,d1,z0,z1,w2,s5,bC,gh,Tr.aa];refine wa (D7 _ (by simp[Tr.aa]) (by simp[Tr.aa]) (by simp[Tr.aa]) (by simp[Tr.aa]) (by simp[Tr.aa])) ?_;rintro r ⟨_,E,nl,Y,buf,q,h,st,out,sp,rfl,r7,hY,rq,rs,rf,rn⟩;simp -implicitDefEqProofs only[SP,WP,sevalprocAttr,-List.reduceReplicate,r7];subst hQ;exact⟨nl,.tok 5 (Nc s.at_ out).length nl::Y,buf,q,h,st,out,sp,rfl,(Still.tok _ _ _).cons hY,rq,rs,rf,rn,by simp⟩
end
theorem yL{ss:List Nb}(h:∀ s∈ss,∀ l∈s.parts,l.length<=1000)(h2:∀ s∈ss,s.parts.length<=1000)(h3:ss.length<=1000):qb (.lit 2 (ss.map uf)) ss (ss.map uf):=by
 refine⟨.inr rfl,by rw[haa],fun k e s he hs=> ?_,by unfold maxLen;omega⟩;rw[Eaa,hs] at he;injection he with he
 have hm:=nab hs;refine⟨_,_,he.symm,.inr rfl,by rw[haa],fun j v l hv hl=> ?_,by have:=h2 s hm;unfold maxLen;omega⟩;rw[Eaa,hl] at hv;injection hv with hv
 have:=h s hm l (nab hl);exact⟨.inr hv.symm,by omega⟩
theorem rO{ss:List Nb}{l:List (List ae)}{a b c d:Int}(hh:qb (.lit 2 (ss.map uf)) ss (ss.map uf))(hv:Kg [.agg [.lit 2 (ss.map uf)]]=some (.bool true))(hp:qf [.agg [.lit 2 (ss.map uf)]]=some (.mc [.agg [.bool true,i64 a,i64 b],i64 0]))
 (hi:Gh [.agg [.lit 2 (ss.map uf)]]=some (.mc [.agg [.bool true,i64 c,i64 d],i64 0])) (ha:jg ss=some l):
 Xb ss/\∃ T,Ib [.agg [.lit 2 (ss.map uf)]]=some (.mc [T,i64 0])/\xo T ss l/\∀ e∈l,yj e:=by
 obtain⟨x,h1,h2⟩:=wm hh;rw[hv] at h1;injection h1 with h1
 injection h1 with h1
 have Ba:=h2.1 h1.symm
 obtain⟨y,a',b',h3,h4⟩:=(FG hh).2 Ba
 rw[hp] at h3;injection h3 with h3
 injection h3 with h3
 injection h3 with h3 _
 injection h3 with h3
 injection h3 with h3 _
 injection h3 with h3
 have I7:=h4.1 h3.symm
 obtain⟨T,t1,t2⟩:=nF hh Ba I7 ha hi;exact⟨Ba,T,t1,t2,kH Ba I7 ha⟩
theorem X2.of{T:PV}{ss:List Nb}{l:List (List ae)}(hT:xo T ss l)(Ba:Xb ss):X2 T fun u=>EY u ss:=by
 refine⟨fun u=>yW hT Ba u,fun u b h=> ?_,?_⟩
 ·obtain⟨s,hs,h1,h2,rfl,_⟩:=mN Ba.dt h
  have hk:=Ba.dt s hs
  have:=(Wy s.parts (u - s.first) 0 hk.parts (by omega) (by omega)).2.1
  have:=hk.hi
  omega
 ·obtain⟨S',NX,DG,RW,h,_⟩:=hT.ex
  exact⟨_,h⟩
section
variable {H:List ba}{T:PV}{cd:Int->Option (List Int)}{call:Sa}
end
def Gs:List Nb:=[⟨[[(0,127)]],0⟩,⟨[[(194,223)],[(128,191)]],128⟩,⟨[[(225,225)],[(128,191)],[(128,191)]],4096⟩]
theorem gM:Kg [.agg [.lit 2 (Gs.map uf)]]=some (.bool true):=by kernel_rfl
theorem KL:qf [.agg [.lit 2 (Gs.map uf)]]=some (.mc [.agg [.bool true,i64 0,i64 0],i64 0]):=by kernel_rfl
theorem rK:Gh [.agg [.lit 2 (Gs.map uf)]]=some (.mc [.agg [.bool true,i64 0,i64 0],i64 0]):=by kernel_rfl
def GC:List (List ae):=[[⟨0,127,-1⟩,⟨194,223,1⟩,⟨225,225,2⟩],[⟨128,191,-1⟩],[⟨128,191,1⟩]]
theorem BK:jg Gs=some GC:=by kernel_rfl
theorem MU.lit(us:List Int)(n0:Nat):MU (.pv (.lit 1 (us.map i64))) us n0:=by
 refine⟨fun H=>by simp[Tb],fun H i h=> ?_,fun n hn=>Qa⟩;simp only[ta];rw[if_pos ⟨trivial,by unfold Ia;rw[haa];omega⟩,Daa,Eaa,aaa h];rfl
theorem MU.ga(n0:Nat):MU (.pv .ga) [] n0:=⟨fun H=>rfl,fun H i h=>by simp at h,fun n hn=>Qa⟩
theorem MU.uq(us:List Int){id n0:Nat}(nl:Bool)(h:id < n0):MU (.uq id nl 1 (us.map i64)) us n0:=by
 refine⟨fun H=>by simp[Tb],fun H i h=> ?_,fun n hn=>rH (by omega)⟩;simp only[ta];rw[if_pos ⟨trivial,by unfold Ia;rw[haa];omega⟩,Daa,Eaa,aaa h];rfl
end Go.AM.B1
