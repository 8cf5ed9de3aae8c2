/- What functions of the program compute. -/
import Derived.Test.YtijlhblleiaomaaGreatL7
import Derived.Test.YtijlhblleiaomaaGreatL2
import Derived.Test.YtijlhblleiaomaaGreatL4
import Derived.Test.YtijlhblleiaomaaGreatL5
import Derived.Test.YtijlhblleiaomaaGreatL6
set_option linter.unusedVariables false
set_option linter.unusedSimpArgs false
namespace Go.AM.B1
open Go.AM Go.AM.So
theorem aaa{call:Ab}(k:Nat)(s:St):ua call (.goto k) s=some (.goto k,s):=rfl
theorem baa{call:Ab}(k:Nat)(a b:Ya)(s:St):ua call (.jumps k a b) s=cq k (ua call b) (ua call a s):=rfl
theorem Pap(f:St->Option (Ex×St))(n:Nat)(s:St):Pm f (some (.goto n,s))=some (.goto n,s):=rfl
def Ff(A:List fa)(d c:Nat)(o1 o2:fa)(X:List fa)(n:Nat)(nl:Bool)(Y:List fa):List fa:=Hc A d c o1 o2 (X++ .tok 5 n nl::Y)
section
variable {A:List fa}{d c:Nat}{o1 o2:fa}{X Y:List fa}{n:Nat}{nl:Bool}
theorem waj:(Ff A d c o1 o2 X n nl Y)[A.length+X.length]? =some (.tok 5 n nl):=by
 unfold Ff;rw[MZ,Tg (gb _),Kq];rfl
theorem vaj(m:Nat)(b:Bool):(Ff A d c o1 o2 X n nl Y).set (A.length+X.length) (.tok 5 m b)=Ff A d c o1 o2 X m b Y:=by
 unfold Ff;rw[KZ,Po _ _ (gb _),Kq];rfl
theorem rT{es:List PV}(e:PV)(hn:n=es.length)(hl:es.length<=1000000000000):Ud (Ff A d c o1 o2 X n nl Y) false .uq 5 true 40 (.uq (A.length+X.length) nl 5 es) (.pv (.lit 5 [e]))=some (.uq (A.length+X.length) false 5 (es++[e]),Ff A d c o1 o2 X (es++[e]).length false Y):=by
 subst hn;rw[Jo waj rfl (by unfold Ac;omega),vaj,Pc];rfl
end
theorem Still.Ff{X Y:List fa}{n:Nat}{nl:Bool}(hX:Still X)(hY:Still Y):Still (X++ .tok 5 n nl::Y):=hX.app ((Still.tok 5 n nl).cons hY)
section
variable {T:PV}{ss:List ya}{l:List (List Oa)}(hT:wk T ss l)(ga:uc ss)(ho:∀ e∈l,Kl e)
variable {call call':Ab}{A:List fa}{d c:Nat}(hA:Pd A)(h2:uv A d c){bad Ea:Int}{ab fin:Bool}
 (h89:∀ H (k:Int),call 89 [.ptr d 0,.pv (aa k)] H=Gc call' Cs [.ptr d 0,.pv (aa k)] H)
 (h81:∀ H (x:Int),call 81 [.ptr c 0,.pv (u8 x)] H=Gc call' Av [.ptr c 0,.pv (u8 x)] H)
 {call'':Ab} (h82:∀ H (n:Int),call' 82 [.ptr c 0,.pv (aa n)] H=Gc call'' Bs [.ptr c 0,.pv (aa n)] H) (h83:∀ H,call' 83 [.ptr c 0] H=Gc call'' As [.ptr c 0] H)
include hT ga hA h2 h89 h82 h83
theorem F8{st:Int}{at_:Nat}(pg:at_<=1000000){buf q:List Int}{h:Nat}(hq:oh buf h q){X:List fa}(hX:Still X){n:Nat}{nl:Bool}{Y:List fa}(hY:Still Y){k u:Int}(hu:u=if k=1 then (Oj q ss).getD 0 else 0):
 ∃ Y',Still Y'/\call 89 [.ptr d 0,.pv (aa k)] (Ff A d c (Wb T bad c st at_ Ea ab fin) (Dc buf 8 h q.length) X n nl Y)=some (.pv (Jd ⟨k,q.length,u⟩ at_),Ff A d c (Wb T bad c 0 ((at_+q.length:Nat):Int) Ea ab fin) (Dc buf 8 ((h+q.length) % 8:Nat) ([]:List Int).length) X n nl Y'):=by
 rw[h89];obtain⟨Y',y1,y2⟩:=G8 (call:=call') (call':=call'') hA h2 (hX.Ff hY (n:=n) (nl:=nl)) (T:=T) (bad:=bad) (st:=st) (Ea:=Ea) (at_:=at_) (ab:=ab) (fin:=fin) hq h82 h83 pg (k:=k) (u:=u)
  (fun hk=>by
   have:=lar hT ga (B:= .lit 1 (q.map u8)) (bs:=q) ⟨.inr rfl,hq.jg⟩;rw[if_pos hk] at hu;subst hu;cases hc:Oj q ss with
   |some v=>exact⟨true,by rw[hc] at this;exact this⟩
   |none=>exact⟨false,by rw[hc] at this;exact this⟩)
  (fun hk=>by rw[qa hk] at hu;exact hu)
 refine⟨Y++Y',hY.app y1,?_⟩;unfold Ff;rw[y2,Ij,Sg];rfl
include h81 ho
def rm(ss:List ya)(l:List (List Oa))(q:List Int)(st x:Int):List qf×List Int×Int:=
 if (Md l st x).2=true then (if (Md l st x).1= -1 then ([⟨1,q.length+1,(Oj (q++[x]) ss).getD 0⟩],[],0) else ([],q++[x],(Md l st x).1)) else ([⟨2,q.length+1,0⟩],[],0)
theorem Qab{st:Int}{at_:Nat}(pg:at_<=1000000){buf q:List Int}{h:Nat}(hq:oh buf h q)(hl:q.length < 8){x:Int}(hx:0<=x/\x<=255)(h0:(Md l st x).2=true\/st=0){X:List fa}(hX:Still X){es:List PV}(xn:es.length<=1000000000){nl:Bool}{Y:List fa}(hY:Still Y)
 {E:Tr} (g0:E.get 0= .ptr d 0) (g1:E.get 1= .pv (u8 x)) (g5:E.get 5= .uq (A.length+X.length) nl 5 es) {R:List qf×List Int×Int} (hR:R=rm ss l q st x):
 Ia (fun r=>∃ E' nl' buf' h' Y',r=(.ret,⟨E',Ff A d c (Wb T bad c R.2.2 ((at_+(R.1.map (·.size)).sum:Nat):Int) Ea ab fin) (Dc buf' 8 h' R.2.1.length) X (es++Xb at_ R.1).length nl' Y'⟩)/\
  E'.get 4= .uq (A.length+X.length) nl' 5 (es++Xb at_ R.1)/\oh buf' h' R.2.1/\Still Y'/\(nl'=true->nl=true/\R.1=[])) (ua call Xt ⟨E,Ff A d c (Wb T bad c st at_ Ea ab fin) (Dc buf 8 h q.length) X es.length nl Y⟩):=by
 have zc:=E9 hT ho hx (st:=st);obtain⟨K,hK⟩:∃ K:fa->fa->Nat->Bool->List fa->List fa,K=fun o1 o2 m nl Y=>Ff A d c o1 o2 X m nl Y:=⟨_,rfl⟩;have Yq:∀ o1 o2 m nl Y,Ff A d c o1 o2 X m nl Y=K o1 o2 m nl Y:=fun o1 o2 m nl Y=>by rw[hK]
 have gd:∀ o1 o2 m nl Y,(K o1 o2 m nl Y)[d]? =some o1:=fun o1 o2 m nl Y=>by rw[hK];exact Fy h2
 have gc:∀ o1 o2 m nl Y,(K o1 o2 m nl Y)[c]? =some o2:=fun o1 o2 m nl Y=>by rw[hK];exact HE h2
 have sd:∀ o1 o2 m nl Y o,(K o1 o2 m nl Y).set d o=K o o2 m nl Y:=fun o1 o2 m nl Y o=>by rw[hK];exact qT h2
 have sc:∀ o1 o2 m nl Y o,(K o1 o2 m nl Y).set c o=K o1 o m nl Y:=fun o1 o2 m nl Y o=>by rw[hK];exact JZ h2
 have pd:∀ st at_ o2 m nl Y k,place (K (Wb T bad c st at_ Ea ab fin) o2 m nl Y) k (.ptr d 0)=some (.ptr d k):=fun st at_ o2 m nl Y k=>JA (gd _ _ _ _ _) k;have fq:=fun st at_ o2 m nl Y=>IA (gd (Wb T bad c st at_ Ea ab fin) o2 m nl Y);have MO:∀ at_ o2 m nl Y v,Db (K (Wb T bad c st at_ Ea ab fin) o2 m nl Y) 1 (.ptr d 3) (.pv (aa v))=some (K (Wb T bad c v at_ Ea ab fin) o2 m nl Y):=fun at_ o2 m nl Y v=>by rw[mX (gd _ _ _ _ _),sd]
 obtain⟨buf',Zs,Ys⟩:=iao (call:=call') hq (gc (Wb T bad c st at_ Ea ab fin) (Dc buf 8 h q.length) es.length nl Y) hl hx;rw[sc,<-h81] at Ys;have ap:∀ o1 o2 Y e,Ud (K o1 o2 es.length nl Y) false .uq 5 true 40 (.uq (A.length+X.length) nl 5 es) (.pv (.lit 5 [e]))=some (.uq (A.length+X.length) false 5 (es++[e]),K o1 o2 (es++[e]).length false Y):=fun o1 o2 Y e=>by rw[hK];exact rT e rfl (by omega)
 have bo:∀ (e:qf)(a:Int)(H:List fa),((if (List.map AV.pv (Jd e a).cells).length=5/\(List.map AV.pv (Jd e a).cells).all AV.one=true then some (za [AV.pv (PV.int IntKind.i64 0),AV.pv (PV.int IntKind.i64 0),AV.pv (PV.int IntKind.i64 0),AV.pv (PV.int IntKind.i64 0),AV.pv (PV.int IntKind.i64 0)] 0 (List.map AV.pv (Jd e a).cells)) else none).bind fun cs=>
  if cs.all AV.one=true then Option.map (fun ps=>(AV.pv (PV.lit 5 [PV.agg (List.take 5 ps)]),H)) (bd cs) else none)=some (.pv (.lit 5 [Jd e a]),H):=fun e a H=>rfl
 have Km:(q++[x]).length=q.length+1:=by simp
 have gl:=fun (k u:Int)(hu:u=if k=1 then (Oj (q++[x]) ss).getD 0 else 0)=>F8 hT ga hA h2 h89 h82 h83 (bad:=bad) (Ea:=Ea) (ab:=ab) (fin:=fin) (st:=st) pg Zs hX (n:=es.length) (nl:=nl) hY (k:=k) (u:=u) hu;unfold rm at hR;generalize Ly:(Md l st x).1=s1 at *
 generalize yr:(Md l st x).2=s2 at *
 simp only[Yq] at gl ⊢;clear hK Yq sc gc gd h89 h81 h82 h83;cases s2 with
 |true=>
  rw[if_pos rfl] at hR
  by_cases h1:s1= -1
  ·rw[if_pos h1] at hR
   subst hR;have e1:(s1== -1)=true:=by rw[h1];rfl
   obtain⟨Y',y1,y2⟩:=gl 1 _ rfl;rw[if_pos rfl] at y2;simp only[Km] at y2 Ys;generalize hQ:(fun r:Ex×St=>∃ E' nl' buf' h' Y',r=_/\_)=Q;simp -implicitDefEqProofs only[SX,sevalprocAttr,Xt,g0,g1,g5,pd,fq,zc,Ys,e1,y2,bo,ap];subst hQ;refine⟨_,false,buf',(h+(q.length+1)) % 8,Y',rfl,?_,?_,y1,fun h=>by cases h⟩
   ·simp[Tr.na,Xb]
   ·have:=(sH (call:=call) Zs (H:=[.box ((ie buf' 8 h (q++[x]).length).map .pv)]) (c:=0) rfl (gb _)).1
    rw[Zh,Km] at this;exact this
  ·rw[qa h1] at hR
   subst hR;have e1:(s1== -1)=false:=beq_false_of_ne h1;generalize hQ:(fun r:Ex×St=>∃ E' nl' buf' h' Y',r=_/\_)=Q;simp -implicitDefEqProofs only[SX,sevalprocAttr,Xt,g0,g1,g5,pd,fq,zc,Ys,e1,MO];subst hQ;exact⟨_,nl,buf',h,Y,by rw[show es++Xb at_ []=es from yi es];rfl,by simp[Tr.na,Xb,g5],Zs,hY,fun h=>⟨h,rfl⟩⟩
 |false=>
  rw[qa (by simp)] at hR;subst hR;have h00:st=0:=h0.resolve_left (by simp)
  subst h00;have z0:((0:Int) != 0)=false:=rfl;obtain⟨Y',y1,y2⟩:=gl 2 0 rfl;simp only[Km] at y2 Ys;generalize hQ:(fun r:Ex×St=>∃ E' nl' buf' h' Y',r=_/\_)=Q;simp -implicitDefEqProofs only[SX,sevalprocAttr,Xt,g0,g1,g5,pd,fq,zc,Ys,z0,y2,bo,ap];subst hQ;refine⟨_,false,buf',(h+(q.length+1)) % 8,Y',rfl,?_,?_,y1,fun h=>by cases h⟩
  ·simp[Tr.na,Xb]
  ·have:=(sH (call:=call) Zs (H:=[.box ((ie buf' 8 h (q++[x]).length).map .pv)]) (c:=0) rfl (gb _)).1
   rw[Zh,Km] at this;exact this
omit h81 in
theorem Oab{st:Int}{at_:Nat}(pg:at_<=1000000){buf q:List Int}{h:Nat}(hq:oh buf h q){x:Int}(hx:0<=x/\x<=255)(h0:(Md l st x).2=false/\st≠0){X:List fa}(hX:Still X){es:List PV}(xn:es.length<=1000000000){nl:Bool}{Y:List fa}(hY:Still Y)
 {E:Tr} (g0:E.get 0= .ptr d 0) (g1:E.get 1= .pv (u8 x)) (g5:E.get 5= .uq (A.length+X.length) nl 5 es):
 Ia (fun r=>∃ E' Y' buf' h',r=(if bad=3 then .ret else .goto 0,⟨E',Ff A d c (Wb T bad c 0 ((at_+q.length:Nat):Int) Ea ab fin) (Dc buf' 8 h' ([]:List Int).length) X (es++[Jd ⟨2,q.length,0⟩ at_]).length false Y'⟩)/\
  (bad=3->E'.get 4= .uq (A.length+X.length) false 5 (es++[Jd ⟨2,q.length,0⟩ at_]))/\E'.get 5= .uq (A.length+X.length) false 5 (es++[Jd ⟨2,q.length,0⟩ at_])/\E'.get 0= .ptr d 0/\E'.get 1= .pv (u8 x)/\Still Y'/\oh buf' h' [])
  (ua call Xt ⟨E,Ff A d c (Wb T bad c st at_ Ea ab fin) (Dc buf 8 h q.length) X es.length nl Y⟩):=by
 have zc:=E9 hT ho hx (st:=st);obtain⟨K,hK⟩:∃ K:fa->fa->Nat->Bool->List fa->List fa,K=fun o1 o2 m nl Y=>Ff A d c o1 o2 X m nl Y:=⟨_,rfl⟩;have Yq:∀ o1 o2 m nl Y,Ff A d c o1 o2 X m nl Y=K o1 o2 m nl Y:=fun o1 o2 m nl Y=>by rw[hK]
 have gd:∀ o1 o2 m nl Y,(K o1 o2 m nl Y)[d]? =some o1:=fun o1 o2 m nl Y=>by rw[hK];exact Fy h2
 have pd:∀ st at_ o2 m nl Y k,place (K (Wb T bad c st at_ Ea ab fin) o2 m nl Y) k (.ptr d 0)=some (.ptr d k):=fun st at_ o2 m nl Y k=>JA (gd _ _ _ _ _) k;have fq:=fun st at_ o2 m nl Y=>IA (gd (Wb T bad c st at_ Ea ab fin) o2 m nl Y);have ap:∀ o1 o2 Y e,Ud (K o1 o2 es.length nl Y) false .uq 5 true 40 (.uq (A.length+X.length) nl 5 es) (.pv (.lit 5 [e]))=some (.uq (A.length+X.length) false 5 (es++[e]),K o1 o2 (es++[e]).length false Y):=fun o1 o2 Y e=>by rw[hK];exact rT e rfl (by omega)
 have bo:∀ (e:qf)(a:Int)(H:List fa),((if (List.map AV.pv (Jd e a).cells).length=5/\(List.map AV.pv (Jd e a).cells).all AV.one=true then some (za [AV.pv (PV.int IntKind.i64 0),AV.pv (PV.int IntKind.i64 0),AV.pv (PV.int IntKind.i64 0),AV.pv (PV.int IntKind.i64 0),AV.pv (PV.int IntKind.i64 0)] 0 (List.map AV.pv (Jd e a).cells)) else none).bind fun cs=>
  if cs.all AV.one=true then Option.map (fun ps=>(AV.pv (PV.lit 5 [PV.agg (List.take 5 ps)]),H)) (bd cs) else none)=some (.pv (.lit 5 [Jd e a]),H):=fun e a H=>rfl
 obtain⟨Y',y1,y2⟩:=F8 hT ga hA h2 h89 h82 h83 (bad:=bad) (Ea:=Ea) (ab:=ab) (fin:=fin) (st:=st) pg hq hX (n:=es.length) (nl:=nl) hY (k:=2) (u:=0) rfl;have IE:=(sH (call:=call) hq (H:=[.box ((ie buf 8 h q.length).map .pv)]) (c:=0) rfl (gb _)).1
 rw[Zh] at IE;rw[h0.1] at zc;generalize Ly:(Md l st x).1=s1 at *
 simp only[Yq] at y2 ⊢;clear hK Yq gd h89 h82 h83;have z0:(st != 0)=true:=by simp[h0.2]
 by_cases h3:bad=3
 ·have e3:(bad==3)=true:=by rw[h3];rfl
  rw[if_pos h3];generalize hQ:(fun r:Ex×St=>∃ E' Y' buf' h',r=_/\_)=Q;simp -implicitDefEqProofs only[SX,sevalprocAttr,Xt,g0,g1,g5,pd,fq,zc,z0,y2,bo,ap,e3];subst hQ;exact⟨_,Y',buf,_,rfl,fun _=>by simp[Tr.na],by simp[Tr.na],by simp[Tr.na,g0],by simp[Tr.na,g1],y1,IE⟩
 ·have e3:(bad==3)=false:=beq_false_of_ne h3
  rw[qa h3];generalize hQ:(fun r:Ex×St=>∃ E' Y' buf' h',r=_/\_)=Q;simp -implicitDefEqProofs only[SX,sevalprocAttr,Xt,g0,g1,g5,pd,fq,zc,z0,y2,bo,ap,e3,aaa,Pap];subst hQ;exact⟨_,Y',buf,_,rfl,fun h=>absurd h h3,by simp[Tr.na],by simp[Tr.na,g0],by simp[Tr.na,g1],y1,IE⟩
end
def mi(T:PV)(bad:Int)(C:PV)(st at_ Ea:Int)(ab fin:Bool):List PV:=[T,aa bad,C,aa st,aa at_,aa Ea,.bool ab,.bool fin]
theorem PL{H:List fa}{d c:Nat}{T:PV}{bad st at_ Ea:Int}{ab fin:Bool}{buf:List Int}{r h n:Int}(hd:H[d]? =some (Wb T bad c st at_ Ea ab fin))(hc:H[c]? =some (Dc buf r h n)):
 qb H 6 (.ptr d 0)=some (.rp (mi T bad (.rp (ie buf r h n) 0) st at_ Ea ab fin) 0):=by
 have h1:=AL hc 4;rw[qb];simp only[hd,Wb,Qx,Ha,UO,h1,Lc,Vc];rfl
section
variable (T:PV)(bad:Int)(C:PV)(st at_ Ea:Int)(ab fin:Bool)(H:List fa)
theorem qH:wa H false 1 (.pv (.rp (mi T bad C st at_ Ea ab fin) 0))=some (.pv T)/\wa H false 1 (.pv (.rp (mi T bad C st at_ Ea ab fin) 1))=some (.pv (aa bad))/\wa H false 1 (.pv (.rp (mi T bad C st at_ Ea ab fin) 2))=some (.pv C)/\
 wa H false 1 (.pv (.rp (mi T bad C st at_ Ea ab fin) 5))=some (.pv (aa Ea))/\wa H false 1 (.pv (.rp (mi T bad C st at_ Ea ab fin) 6))=some (.pv (.bool ab))/\wa H false 1 (.pv (.rp (mi T bad C st at_ Ea ab fin) 7))=some (.pv (.bool fin)):=⟨rfl,rfl,rfl,rfl,rfl,rfl⟩
end
section
variable {T:PV}{bad:Int}{C:PV}{st at_ Ea:Int}{ab fin:Bool}
theorem pX:zz [.rp (mi T bad C st at_ Ea ab fin) 0]=some (aa (if fin then 181 else if ab then 182 else 0)):=by
 have ld:=qH T bad C st at_ Ea ab fin;have pl:=mz (mi T bad C st at_ Ea ab fin);generalize mi T bad C st at_ Ea ab fin=row at *;have e1:∀ H,Zd H 1 (.pv (.rp row 0)) (.pv .Ic)=some false:=fun H=>rfl;cases fin with
 |true=>simp -implicitDefEqProofs only[zz,SX,sevalprocAttr,sG,e1,pl,ld,if_true]
 |false=>
  cases ab with
  |true=>simp -implicitDefEqProofs only[zz,SX,sevalprocAttr,sG,e1,pl,ld,if_true,Sc,if_false]
  |false=>simp -implicitDefEqProofs only[zz,SX,sevalprocAttr,sG,e1,pl,ld,Sc,if_false]
theorem Nad:oP [.rp (mi T bad C st at_ Ea ab fin) 0]=some (aa Ea):=by
 have ld:=qH T bad C st at_ Ea ab fin;have pl:=mz (mi T bad C st at_ Ea ab fin);generalize mi T bad C st at_ Ea ab fin=row at *;have e1:∀ H,Zd H 1 (.pv (.rp row 0)) (.pv .Ic)=some false:=fun H=>rfl;simp -implicitDefEqProofs only[oP,SX,sevalprocAttr,aW,e1,pl,ld]
theorem Mad:nP [.rp (mi T bad C st at_ Ea ab fin) 0]=some (.bool ab):=by
 have ld:=qH T bad C st at_ Ea ab fin;have pl:=mz (mi T bad C st at_ Ea ab fin);generalize mi T bad C st at_ Ea ab fin=row at *;have e1:∀ H,Zd H 1 (.pv (.rp row 0)) (.pv .Ic)=some false:=fun H=>rfl;simp -implicitDefEqProofs only[nP,SX,sevalprocAttr,ZV,e1,pl,ld]
theorem tX{buf q:List Int}{h:Nat}{r:Int}(hq:oh buf h q):Rr [.rp (mi T bad (.rp (ie buf r h q.length) 0) st at_ Ea ab fin) 0]=some (aa q.length):=by
 have hl:=BL (r:=r) hq;have ld:=qH T bad (.rp (ie buf r h q.length) 0) st at_ Ea ab fin;have pl:=mz (mi T bad (.rp (ie buf r h q.length) 0) st at_ Ea ab fin);generalize mi T bad (.rp (ie buf r h q.length) 0) st at_ Ea ab fin=row at *;have e1:∀ H,Zd H 1 (.pv (.rp row 0)) (.pv .Ic)=some false:=fun H=>rfl;simp -implicitDefEqProofs only[Rr,SX,sevalprocAttr,KP,e1,pl,ld,hl]
theorem pac{buf q:List Int}{h:Nat}{r:Int}(hq:oh buf h q):UJ [.rp (ie buf r h q.length) 0]=some (aa r):=by
 obtain⟨c8,c9,Ev⟩:=jH hq.len (r:=r) (h:=h) (n:=q.length)
 generalize ie buf r h q.length=row at *
 have e1:∀ H,Zd H 1 (.pv (.rp row 0)) (.pv .Ic)=some false:=fun H=>rfl;have pl:=mz row;have ld:=fun H=>yN c8 H;simp -implicitDefEqProofs only[UJ,SX,sevalprocAttr,HP,e1,pl,ld]
theorem Lad{buf q:List Int}{h:Nat}{r:Int}(hq:oh buf h q):EC [.rp (mi T bad (.rp (ie buf r h q.length) 0) st at_ Ea ab fin) 0]=some (aa r):=by
 have hl:=pac (r:=r) hq;have ld:=qH T bad (.rp (ie buf r h q.length) 0) st at_ Ea ab fin;have pl:=mz (mi T bad (.rp (ie buf r h q.length) 0) st at_ Ea ab fin);generalize mi T bad (.rp (ie buf r h q.length) 0) st at_ Ea ab fin=row at *;have e1:∀ H,Zd H 1 (.pv (.rp row 0)) (.pv .Ic)=some false:=fun H=>rfl;simp -implicitDefEqProofs only[EC,SX,sevalprocAttr,LP,e1,pl,ld,hl]
end
section
variable {S:PV}{ss:List ya}{es:List PV}(hS:zd S ss es)(ga:uc ss)
include hS ga
end
open Go.AM
theorem Oh.take{B:PV}{bs:List Int}(h:Oh B bs){n:Nat}(hn:n<=bs.length):∃ B',(∀ H,nh H 1 (.pv B) none (some (n:Int))=some (.pv B'))/\Oh B' (bs.take n)/\(AV.pv B').one=true:=by
 rcases h.is with⟨rfl,hb⟩ | rfl
 ·have:bs=[]:=by simpa using hb
  subst this;have:n=0:=by simpa using hn
  subst this;exact⟨.oa,fun H=>rfl,⟨.inl ⟨rfl,rfl⟩,by simp⟩,rfl⟩
 ·refine⟨.lit 1 ((bs.take n).map (PV.int .u8)),fun H=> ?_,⟨.inr rfl,fun b hb=>h.jg b (Ot hb)⟩,rfl⟩
  simp only[nh,ov,Option.getD_none];rw[if_pos ⟨by omega,trivial,by omega,by omega,by simp;omega⟩];simp[List.map_take]
theorem X0{ss:List ya}(ga:uc ss)(hinj:gj ss){i j:Nat}(hi:i < ss.length)(hj:j < ss.length){w:List Nat}(hw:Bytes w)(h1:Full ss[i] w)(h2:Full ss[j] w):i=j:=by
 have key:∀ i j (hi:i < ss.length) (hj:j < ss.length),i < j->Full ss[i] w->Full ss[j] w->False:=by
  intro i j hi hj hlt h1 h2;have e:ss[i].ba.length=ss[j].ba.length:=by rw[<- h1.2,<-h2.2]
  have:=hinj i j hi hj hlt e;rw[N3 (ga.He _ (ic hi)) (ga.He _ (ic hj)) (by omega) hw h1 h2.1] at this;cases this
 rcases Nat.lt_trichotomy i j with h | h | h
 ·exact (key i j hi hj h h1 h2).elim
 ·exact h
 ·exact (key j i hj hi h h2 h1).elim
theorem nX{b:List Int}:∀ {ss:List ya}{i:Nat}(hi:i < ss.length){k:Int},Zg ss[i] b=some k->(∀ j (hj:j < ss.length),(Zg ss[j] b).isSome->j=i)->Oj b ss=some (ss[i].pa+k)
 |s::ss,0,_,k,hk,_=>by have hk:Zg s b=some k:=hk;rw[Oj,hk];rfl
 |s::ss,i+1,hi,k,hk,h=>by
  have hn:Zg s b=none:=by
   cases hr:Zg s b with
   |none=>rfl
   |some x=>have:=h 0 (by simp) (by show (Zg s b).isSome=true;rw[hr];rfl);omega
  rw[Oj,hn];exact nX (ss:=ss) (i:=i) (by simpa using hi) hk fun j hj hs=>by have:=h (j+1) (by simpa using hj) hs;omega
def zB:List (List (Int×Int))->List Int->Int->Option Int
 |l::r,x::b,k=>if (Ld x 0 l).2=true then zB r b (k * Tb 0 l+(Ld x 0 l).1) else none
 |_,_,k=>some k
theorem IZ:∀ (ls:List (List (Int×Int)))(bs:List Int)(k:Int),bs.length=ls.length->zB ls bs k=Uh ls bs (k * eb ls)
 | [],[],k,_=>by simp[zB,Uh,eb]
 | [],_::_,k,h=>by simp at h
 |_::_,[],k,h=>by simp at h
 |l::r,x::b,k,h=>by
  rw[zB,Uh]
  split
  ·rw[IZ r b _ (by simpa using h),eb]
   congr 1
   rw[Int.add_mul,Int.mul_assoc,xx (Tb 0 l)]
  ·rfl
def Ue:List (List (Int×Int))->List Int->Nat->Int->Nat×Int
 |l::ls,x::b,n,k=>if (Ld x 0 l).2=true then Ue ls b (n+1) (k * Tb 0 l+(Ld x 0 l).1) else (n,k)
 |_,_,n,k=>(n,k)
theorem ZR:∀ (ls:List (List (Int×Int)))(bs:List Int)(n:Nat)(k:Int),∃ m,(Ue ls bs n k).1=n+m/\m<=ls.length/\m<=bs.length/\(m=ls.length->zB ls (bs.take m) k=some (Ue ls bs n k).2)/\
 (∀ j (h1:j < ls.length) (h2:j < bs.length),j < m->(Ld bs[j] 0 ls[j]).2=true)/\(∀ (h1:m < ls.length)(h2:m < bs.length),(Ld bs[m] 0 ls[m]).2=false)
 | [],bs,n,k=>⟨0,by simp[Ue],by simp,by simp,fun _=>by simp[Ue,zB],fun j h1=>by simp at h1,fun h1=>by simp at h1⟩
 |l::ls,[],n,k=>⟨0,by simp[Ue],by simp,by simp,fun h=>by simp at h,fun j h1 h2=>by simp at h2,fun h1 h2=>by simp at h2⟩
 |l::ls,x::b,n,k=>by
  rw[Ue]
  by_cases h:(Ld x 0 l).2=true
  ·rw[if_pos h]
   obtain⟨m,m1,m2,m3,m4,m5,m6⟩:=ZR ls b (n+1) (k * Tb 0 l+(Ld x 0 l).1);refine⟨m+1,by omega,by simp;omega,by simp;omega,fun he=> ?_,fun j h1 h2 hj=> ?_,fun h1 h2=> ?_⟩
   ·rw[RC,zB,if_pos h];exact m4 (by simpa using he)
   ·cases j with
    |zero=>exact h
    |succ j=>exact m5 j (by simpa using h1) (by simpa using h2) (by omega)
   ·exact m6 (by simpa using h1) (by simpa using h2)
  ·rw[qa h]
   exact⟨0,rfl,by simp,by simp,fun he=>by simp at he,fun j h1 h2 hj=>by omega,fun h1 h2=>by simpa using h⟩
def aj:List ya->List Int->Nat->qf
 | [],bs,most=>if 0 < most/\most=bs.length then ⟨3,most,0⟩ else ⟨2,max most 1,0⟩
 |s::ss,bs,most=>if (Ue s.ba bs 0 0).1=s.ba.length then ⟨1,s.ba.length,s.pa+(Ue s.ba bs 0 0).2⟩ else aj ss bs (max most (Ue s.ba bs 0 0).1)
theorem U6{bs:List Int}:∀ {ss:List ya}{i:Nat}(hi:i < ss.length)(most:Nat),(Ue ss[i].ba bs 0 0).1=ss[i].ba.length->(∀ j (hj:j < ss.length),j < i->(Ue ss[j].ba bs 0 0).1≠ss[j].ba.length)->aj ss bs most=⟨1,ss[i].ba.length,ss[i].pa+(Ue ss[i].ba bs 0 0).2⟩
 |s::ss,0,hi,most,h,_=>by rw[aj];exact if_pos h
 |s::ss,i+1,hi,most,h,hn=>by rw[aj,qa (show ¬(Ue s.ba bs 0 0).1=s.ba.length from hn 0 (by simp) (by omega))];exact U6 (ss:=ss) (by simpa using hi) _ h fun j hj hlt=>hn (j+1) (by simpa using hj) (by omega)
theorem HU{bs:List Int}{M:Nat}:∀ {ss:List ya}{most:Nat},(∀ s∈ss,(Ue s.ba bs 0 0).1≠s.ba.length/\(Ue s.ba bs 0 0).1<=M)->most<=M->(most=M\/∃ s∈ss,(Ue s.ba bs 0 0).1=M)->aj ss bs most=if 0 < M/\M=bs.length then ⟨3,M,0⟩ else ⟨2,max M 1,0⟩
 | [],most,_,hm,he=>by
   rcases he with rfl | ⟨s,hs,_⟩
   ·rfl
   ·cases hs
 |s::ss,most,h,hm,he=>by
  have hs:=h s (by simp);rw[aj,qa hs.1];refine HU (fun t ht=>h t (by simp[ht])) (by omega) ?_;rcases he with rfl | ⟨t,ht,hte⟩
  ·exact .inl (by omega)
  ·rcases Ae.1 ht with rfl | ht
   ·exact .inl (by omega)
   ·exact .inr ⟨t,ht,hte⟩
theorem tam{w:List Nat}{j:Nat}(h:j < (ig w).length):(ig w)[j]=((w[j]'(by simpa[ig] using h):Nat):Int):=by simp[ig]
theorem Xy(w:List Nat):(ig w).length=w.length:=by simp[ig]
theorem mU(w:List Nat)(n:Nat):(ig w).take n=ig (w.take n):=by simp[ig,List.map_take]
section
variable {s:ya}(hk:Yd s)(w:List Nat)
include hk
theorem T3{j:Nat}(h1:j < s.ba.length)(h2:j < w.length):(Ld ((ig w)[j]'(by rw[Xy];exact h2)) 0 s.ba[j]).2=Ek s j w[j]:=by
 have hp:=hk.ba _ (ic h1)
 rw[tam,S6 hp];unfold Ek;rw[Rb h1]
theorem zM:∃ m,(Ue s.ba (ig w) 0 0).1=m/\m<=s.ba.length/\m<=w.length/\uh s (w.take m)/\(m < w.length->¬uh s (w.take (m+1)))/\(m=s.ba.length->Zg s (ig (w.take m))=some (Ue s.ba (ig w) 0 0).2):=by
 obtain⟨m,m1,m2,m3,m4,m5,m6⟩:=ZR s.ba (ig w) 0 0
 rw[Xy] at m3;refine⟨m,by omega,m2,m3,fun j x hj=> ?_,fun hlt hm=> ?_,fun he=> ?_⟩
 ·have zy:=(Ad.1 hj)
  obtain⟨zy,hx⟩:=zy;rw[ij] at zy;rw[List.getElem_take] at hx;have:=m5 j (by omega) (by rw[Xy];omega) (by omega);rw[T3 hk w (by omega) (by omega),hx] at this;exact this
 ·have hx:=hm m w[m] (by rw[Qz (by omega),Rb hlt])
  by_cases h1:m < s.ba.length
  ·have:=m6 h1 (by rw[Xy];exact hlt)
   rw[T3 hk w h1 hlt,hx] at this;cases this
  ·exact h1 (bU hx)
 ·have:=m4 he
  rw[IZ _ _ _ (by rw[mU,Xy,ij];omega),Int.zero_mul,mU] at this;unfold Zg;rw[if_pos (by rw[Xy,ij];omega)];exact this
end
theorem F3{s:ya}{w:List Nat}(h:uh s w):w.length<=s.ba.length:=by
 rcases Bx w.length with h0 | h0
 ·omega
 ·have:=bU (h (w.length - 1) w[w.length - 1] (Rb _))
  omega
theorem OI{s:ya}{w:List Nat}{n m:Nat}(h:uh s (w.take m))(hn:n<=m):uh s (w.take n):=fun j x hj=>h j x (by
 rw[wm] at hj ⊢
 split at hj
 ·rw[if_pos (by omega)];exact hj
 ·cases hj)
theorem Eao{ss:List ya}{l:List (List Oa)}(ga:uc ss)(wc:Ee ss)(hinj:gj ss)(ha:bf ss=some l){w:List Nat}(hw:Bytes w)(Va:w≠[]):aj ss (ig w) 0=ef ss l (ig w):=by
 obtain⟨m,hm,hc⟩:=J3 ga wc ha w hw;have Qs:∀ n,Bytes (w.take n):=fun n x hx=>hw x (Ot hx);have hl:0 < w.length:=Vn.2 Va
 have PS:∀ s∈ss,(Ue s.ba (ig w) 0 0).1=s.ba.length->Full s (w.take s.ba.length)/\s.ba.length<=w.length/\Zg s (ig (w.take s.ba.length))=some (Ue s.ba (ig w) 0 0).2:=fun s hs he=>by
  obtain⟨n,n1,n2,n3,n4,_,n6⟩:=zM (ga.He s hs) w;have:n=s.ba.length:=by omega
  subst this;exact⟨⟨n4,by rw[ij];omega⟩,n3,n6 rfl⟩
 have Si:∀ s∈ss,∀ n,n<=w.length->uh s (w.take n)->n<=(Ue s.ba (ig w) 0 0).1:=fun s hs n hn Xl=>by
  obtain⟨k,k1,k2,k3,k4,k5,k6⟩:=zM (ga.He s hs) w;rcases yd k n with h | h
  ·exact absurd (OI Xl h) (k5 (by omega))
  ·omega
 have DZ:(∀ s∈ss,¬Full s (w.take m))->(m=w.length\/∀ s∈ss,¬uh s (w.take (m+1)))->(w.take m=[]\/∃ s∈ss,uh s (w.take m))->∀ s∈ss,(Ue s.ba (ig w) 0 0).1≠s.ba.length/\(Ue s.ba (ig w) 0 0).1<=m:=by
  intro h1 h2 h3 s hs;have hup:(Ue s.ba (ig w) 0 0).1<=m:=by
   obtain⟨k,k1,k2,k3,k4,k5,k6⟩:=zM (ga.He s hs) w;rcases h2 with h2 | h2
   ·omega
   ·rcases yd m k with h | h
    ·exact absurd (OI k4 h) (h2 s hs)
    ·omega
  refine⟨fun he=> ?_,hup⟩;obtain⟨f1,f2,_⟩:=PS s hs he;rcases yd s.ba.length m with hlt | hge
  ·rcases h3 with h3 | ⟨t,ht,h3⟩
   ·have:=congrArg List.length h3
    rw[ij] at this;replace this:min m w.length=0:=this
    have:=(ga.He s hs).lo
    omega
   ·have hle:=F3 h3
    rw[ij] at hle;exact aO ga wc hs ht (Qs s.ba.length) f1 (OI h3 (Nat.le_of_lt hlt)) (by omega)
  ·have:s.ba.length=m:=by omega
   rw[this] at f1;exact h1 s hs f1
 have hM:(w.take m=[]\/∃ s∈ss,uh s (w.take m))->(∀ s∈ss,(Ue s.ba (ig w) 0 0).1<=m)->(0=m\/∃ s∈ss,(Ue s.ba (ig w) 0 0).1=m):=by
  rintro (h | ⟨s,hs,h⟩) hle
  ·have:=congrArg List.length h
   rw[ij] at this;replace this:min m w.length=0:=this
   exact .inl (by omega)
  ·exact .inr ⟨s,hs,Nat.le_antisymm (hle s hs) (Si s hs m hm h)⟩
 have Rah:(w.map fun (n:Nat)=>(n:Int))=ig w:=rfl;rw[Rah] at hc;rcases hc with⟨c1,s,hs,hf⟩ | ⟨c1,c2,c3,c4⟩ | ⟨c1,c2,c3,c4,c5⟩
 ·
  obtain⟨i,hi,rfl⟩:=uj hs;have xc:ss[i].ba.length=m:=by rw[<- hf.2,ij];omega
  have gI:(Ue ss[i].ba (ig w) 0 0).1=ss[i].ba.length:=by
   have h1:=Si _ hs m hm hf.1
   obtain⟨k,k1,k2,_⟩:=zM (ga.He _ hs) w;omega
  have kak:∀ j (hj:j < ss.length),(Ue ss[j].ba (ig w) 0 0).1=ss[j].ba.length->j=i:=fun j hj he=>by
   obtain⟨f1,f2,_⟩:=PS _ (ic hj) he;have h1:¬ss[j].ba.length < ss[i].ba.length:=fun hlt=>aO ga wc (ic hj) hs (Qs _) f1 (OI hf.1 (by omega)) hlt
   have h2:¬ss[i].ba.length < ss[j].ba.length:=fun hlt=>aO ga wc hs (ic hj) (Qs _) hf (OI f1.1 (by omega)) hlt
   have:ss[j].ba.length=m:=by omega
   rw[this] at f1;exact X0 ga hinj hj hi (Qs m) f1 hf
  rw[U6 hi 0 gI fun j hj hlt he=>by have:=kak j hj he;omega];obtain⟨_,_,hr⟩:=PS _ hs gI;have hd:Oj (ig (w.take m)) ss=some (ss[i].pa+(Ue ss[i].ba (ig w) 0 0).2):=by
   rw[xc] at hr;refine nX hi hr fun j hj h=> ?_;have hfj:=(zao (ga.He _ (ic hj)) _).1 h
   exact X0 ga hinj hj hi (Qs m) hfj hf
  unfold ef;rw[c1,if_pos rfl,Uc,mU,hd,xc];rfl
 ·
  have ht:w.take m=w:=by rw[c2,ai]
  have h3:w.take m=[]\/∃ s∈ss,uh s (w.take m):=by rw[ht];exact c3
  have hn:=DZ (by rw[ht];exact c4) (.inl c2) h3;rw[HU hn (Ql _) (hM h3 fun s hs=>(hn s hs).2),if_pos ⟨by omega,by rw[Xy];exact c2⟩];unfold ef;rw[c1,qa (by simp),if_pos rfl,Uc]
 ·have hn:=DZ c4 (.inr c5) c3
  rw[HU hn (Ql _) (hM c3 fun s hs=>(hn s hs).2),qa (by rw[Xy];omega)];unfold ef;rw[c1,qa (by simp),qa (by simp),Uc]
theorem N4{q:List Int}(hr:∀ x∈q,0<=x/\x<=255):ig (q.map Int.toNat)=q:=by
 unfold ig;rw[Iq]
 conv=>rhs;rw[<- List.map_id q]
 exact Hq fun x hx=>by have:=hr x hx;simp;omega
theorem yW{q:List Int}(hr:∀ x∈q,0<=x/\x<=255):Bytes (q.map Int.toNat):=by
 intro x hx;obtain⟨y,hy,rfl⟩:=Re.1 hx
 have:=hr y hy;omega
section
variable {ss:List ya}{l:List (List Oa)}(ga:uc ss)(wc:Ee ss)(ha:bf ss=some l)
include ga wc ha
theorem UM{q:List Int}(hr:∀ x∈q,0<=x/\x<=255){st:Int}(hs:stays l 0 q=some st):q.length < 8:=by
 have hm:=ZT [] hs (i:=0);rw[yi,De,vh] at hm;obtain⟨m,_,hc⟩:=J3 ga wc ha (q.map Int.toNat) (yW hr);have hq:((q.map Int.toNat).map fun (n:Nat)=>(n:Int))=q:=N4 hr;rw[hq,hm] at hc;have hlen:(q.map Int.toNat).length=q.length:=wb ..
 rcases hc with⟨c1,_⟩ | ⟨c1,c2,c3,c4⟩ | ⟨c1,_⟩
 ·simp at c1
 ·rcases c3 with c3 | ⟨s,hs,c3⟩
  ·have:=congrArg List.length c3
   rw[hlen] at this;simp at this;simp[this]
  ·have h1:=F3 c3
   have h2:=(ga.He s hs).hi
   have h3:(q.map Int.toNat).length≠s.ba.length:=fun h=>c4 s hs ⟨c3,h⟩
   omega
 ·simp at c1
omit ga wc ha in
theorem P8:∀ {a b:List Int}{st st':Int},stays l st a=some st'->stays l st (a++b)=stays l st' b
 | [],b,st,st',h=>by injection h with h;subst h;rfl
 |x::a,b,st,st',h=>by
  rw[stays] at h
  split at h
  ·cases h
  ·next hn=>rw[Sg,stays,qa hn];exact P8 h
theorem Vaq{q:List Int}(hr:∀ x∈q,0<=x/\x<=255)(hs:stays l 0 q=some 0):q=[]:=by
 have vT:∀ n,stays l 0 (List.replicate n q).flatten=some 0:=by
  intro n
  induction n with
  |zero=>rfl
  |succ n ih=>rw[List.replicate_succ,um,P8 hs];exact ih
 have:=UM ga wc ha (q:=(List.replicate 8 q).flatten) (fun x hx=>by
  obtain⟨y,hy,GI⟩:=EK.1 hx
  rw[AK hy] at GI;exact hr x GI) (vT 8)
 have hl:(List.replicate 8 q).flatten.length=8 * q.length:=by simp;omega
 exact Ze (by omega)
end
section
variable (ss:List ya)(l:List (List Oa))
theorem jae{bs:List Int}(h:(ef ss l bs).kind=3):ef ss l bs=⟨3,bs.length,0⟩:=by
 obtain⟨k,k1,k2,k3⟩:=YT l bs 0 0;unfold ef at h ⊢;rcases k3 with⟨a,b⟩ | ⟨a,b⟩ | ⟨a,b⟩ <;> rw[a] at h ⊢ <;> simp at h ⊢
 omega
theorem eE:∀ (n:Nat)(bs:List Int),bs.length<=n->lj ss l bs=(we ss l bs).1++(if (we ss l bs).2=[] then [] else [⟨3,(we ss l bs).2.length,0⟩])/\
 (((we ss l bs).1.map (·.size)).sum+(we ss l bs).2.length=bs.length)/\(we ss l bs).2=bs.drop ((we ss l bs).1.map (·.size)).sum/\(∀ e∈(we ss l bs).1,e.kind≠3)/\(we ss l bs).1.length+(we ss l bs).2.length<=bs.length
 |0,bs,h=>by have:bs=[]:=Ze (by omega);subst this;rw[EL ss l (.inl rfl)];simp[nM]
 |n+1,bs,h=>by
  by_cases h1:bs=[]
  ·subst h1
   rw[EL ss l (.inl rfl)];simp[nM]
  ·by_cases h3:(ef ss l bs).kind=3
   ·rw[EL ss l (.inr h3),KR ss l h1,jae ss l h3]
    simp[h1,nM]
   ·have hs:=dE ss l h1
    obtain⟨i1,i2,i3,i4,i5⟩:=eE n (bs.drop (ef ss l bs).size) (by rw[uk];omega);rw[JD ss l h1 h3,KR ss l h1,i1];rw[uk] at i2 i5;refine⟨rfl,by simp only[Pf,List.sum_cons];omega,by simp only[Pf,List.sum_cons];rw[<- List.drop_drop];exact i3,fun e he=> ?_,by simp only[Td];omega⟩;rcases Ae.1 he with rfl | he
    ·exact h3
    ·exact i4 e he
end
def tN(k:Nat)(f:St->Option (Ex×St))(Q:Ex×St->Prop):Ex×St->Prop
 | (.goto j,s)=>if j=k then Ia Q (zt (f s)) else False
 |r=>Q r
theorem Eas{Q:Ex×St->Prop}{k:Nat}{f:St->Option (Ex×St)}{r:Option (Ex×St)}:Ia Q (cq k f r)=Ia (tN k f Q) r:=by
 rcases r with _ | ⟨ex,s⟩
 ·rfl
 ·cases ex with
  |goto j=>show Ia Q (if j=k then _ else _)=(if j=k then _ else _);by_cases h:j=k <;> simp[h,Ia]
  |_=>rfl
def J4(Q:Ex×St->Prop):Ex×St->Prop
 | (.goto _,_)=>False
 |r=>Q r
theorem Gas{Q:Ex×St->Prop}{r:Option (Ex×St)}:Ia Q (zt r)=Ia (J4 Q) r:=by
 rcases r with _ | ⟨ex,s⟩
 ·rfl
 ·cases ex <;> rfl
theorem jam{Q:Ex×St->Prop}{s:St}:J4 Q (.ret,s)=Q (.ret,s):=rfl
theorem O1{k:Nat}{f:St->Option (Ex×St)}{Q:Ex×St->Prop}{s:St}:tN k f Q (.ret,s)=Q (.ret,s):=rfl
theorem Qak{k:Nat}{f:St->Option (Ex×St)}{Q:Ex×St->Prop}{s:St}:tN k f Q (.goto k,s)=Ia Q (zt (f s)):=by simp[tN]
section
variable {T:PV}{ss:List ya}{l:List (List Oa)}(hT:wk T ss l)(ga:uc ss)(ho:∀ e∈l,Kl e)
variable {call call':Ab}{A:List fa}{d c:Nat}(hA:Pd A)(h2:uv A d c){bad Ea:Int}{ab fin:Bool}
 (h89:∀ H (k:Int),call 89 [.ptr d 0,.pv (aa k)] H=Gc call' Cs [.ptr d 0,.pv (aa k)] H)
 (h81:∀ H (x:Int),call 81 [.ptr c 0,.pv (u8 x)] H=Gc call' Av [.ptr c 0,.pv (u8 x)] H)
 {call'':Ab} (h82:∀ H (n:Int),call' 82 [.ptr c 0,.pv (aa n)] H=Gc call'' Bs [.ptr c 0,.pv (aa n)] H) (h83:∀ H,call' 83 [.ptr c 0] H=Gc call'' As [.ptr c 0] H)
include hT ga hA h2 h89 h82 h83 h81 ho
theorem Pab{st:Int}{at_:Nat}(pg:at_<=900000){buf q:List Int}{h:Nat}(hq:oh buf h q)(hl:q.length < 8)(hs:stays l 0 q=some st)(hz:st=0↔q=[]){x:Int}(hx:0<=x/\x<=255){X:List fa}(hX:Still X){B:List qf×List Int}(hB:B=zi ss l (bad==3) q st x):
 Ia (fun r=>∃ (nl:Bool)(buf':List Int)(h':Nat)(st':Int)(Y:List fa),r=(.uq (A.length+X.length) nl 5 (Xb at_ B.1),Hc A d c (Wb T bad c st' ((at_+(B.1.map (·.size)).sum:Nat):Int) Ea ab fin) (Dc buf' 8 h' B.2.length) (X++Y))/\oh buf' h' B.2/\stays l 0 B.2=some st'/\Still Y/\(nl=true->B.1=[])/\Y≠[])
  (Gc call jA [.ptr d 0,.pv (u8 x)] (Hc A d c (Wb T bad c st at_ Ea ab fin) (Dc buf 8 h q.length) X)):=by
 have gh:∀ E:Tr,E.get 5= .pv .oa->∀ o1 o2,Af (.Ln 5 5) ⟨E,Hc A d c o1 o2 X⟩=some ⟨E.set 5 (.uq (A.length+X.length) true 5 []),Ff A d c o1 o2 X ([]:List PV).length true []⟩:=fun E h o1 o2=>by simp only[Af,h,Wp,Ey];rfl
 unfold zi at hB;have hj:=fun (st:Int)(at_:Nat)(pg:at_<=1000000)(buf q:List Int)(h:Nat)(hq:oh buf h q)(hl:q.length < 8)(h0:(Md l st x).2=true\/st=0)(es:List PV)(xn:es.length<=1000000000)(nl:Bool)(Y:List fa)(hY:Still Y)(E:Tr)(g0:E.get 0= .ptr d 0)(g1:E.get 1= .pv (u8 x))(g5:E.get 5= .uq (A.length+X.length) nl 5 es)=>Qab hT ga ho hA h2 h89 h81 h82 h83 (bad:=bad) (Ea:=Ea) (ab:=ab) (fin:=fin) pg hq hl hx h0 hX xn hY g0 g1 g5 rfl;have hjh:=fun (hg:(Md l st x).2=false/\st≠0)(E:Tr)(g0:E.get 0= .ptr d 0)(g1:E.get 1= .pv (u8 x))(g5:E.get 5= .uq (A.length+X.length) true 5 [])=>Oab hT ga ho hA h2 h89 h82 h83 (bad:=bad) (Ea:=Ea) (ab:=ab) (fin:=fin) (at_:=at_) (by omega) hq hx hg hX (es:=[]) (by simp) (nl:=true) (Y:=[]) Still.nil g0 g1 g5
 generalize hQ:(fun r:AV×List fa=>∃ nl buf' h' st' Y,r=_/\_)=Q;simp -implicitDefEqProofs only[SX,sevalprocAttr,jA,baa,Eas,KF,gh,Tr.na]
 by_cases hg:(Md l st x).2=false/\st≠0
 ·have Jaj:q≠[]:=fun h=>hg.2 (hz.2 h)
  rw[qa (by rw[hg.1];simp),qa Jaj] at hB;refine Bb (hjh hg _ (by simp[Tr.na]) (by simp[Tr.na]) (by simp[Tr.na])) ?_;rintro r ⟨E',Y',NQ,h1,rfl,r4,r5,r0,r1,rY,rq⟩
  by_cases h3:bad=3
  ·have e3:(bad==3)=true:=by rw[h3];rfl
   rw[if_pos h3];rw[e3,if_pos rfl] at hB;subst hB;simp -implicitDefEqProofs only[SX,sevalprocAttr,O1,r4 h3];subst hQ;exact⟨false,NQ,h1,0,.tok 5 1 false::Y',by simp[Ff,Xb],rq,rfl,(Still.tok 5 1 false).cons rY,fun h=>(by cases h),by simp⟩
  ·have e3:(bad==3)=false:=beq_false_of_ne h3
   rw[qa h3];rw[e3,qa (by simp)] at hB;simp -implicitDefEqProofs only[SX,sevalprocAttr,Qak,Gas];have Mg:(Md l 0 x).2=true\/(0:Int)=0:= .inr rfl
   have al:=hj 0 (at_+q.length) (by omega) NQ [] h1 rq (by simp) Mg [Jd ⟨2,q.length,0⟩ at_] (by simp) false Y' rY E' r0 r1 r5;refine Bb (show Ia _ (ua call Xt ⟨E',Ff A d c (Wb T bad c 0 ((at_+q.length:Nat):Int) Ea ab fin) (Dc NQ 8 h1 0) X 1 false Y'⟩) from al) ?_;rintro r ⟨E2,nl2,Bab,jE,Y2,rfl,u4,uq,uY,un⟩;have h2n:nl2=false:=by cases nl2 with | false=>rfl | true=>exact absurd (un rfl).1 (by simp)
   simp -implicitDefEqProofs only[SX,sevalprocAttr,jam,u4];subst hQ;subst h2n;have Im:bu ss l x=((rm ss l [] 0 x).1,(rm ss l [] 0 x).2.1):=by
    unfold bu rm
    repeat' split
    all_goals first | rfl | contradiction
   have zT:stays l 0 (rm ss l [] 0 x).2.1=some (rm ss l [] 0 x).2.2:=by
    unfold rm
    split
    ·next h1=>
     split
     ·rfl
     ·next h2=>rw[Kf,stays,qa (by rw[h1];simp[h2]),stays]
    ·rfl
   rw[Im] at hB;subst hB;have ha1:at_+q.length+((rm ss l [] 0 x).1.map (·.size)).sum=at_+(((⟨2,q.length,0⟩:qf)::(rm ss l [] 0 x).1).map (·.size)).sum:=by simp;omega
   refine⟨false,Bab,jE,_,.tok 5 ((Xb (at_+q.length) (rm ss l [] 0 x).1).length+1) false::Y2,?_,uq,zT,(Still.tok 5 _ false).cons uY,fun h=>(by cases h),by simp⟩;rw[ha1];rfl
 ·have h0:(Md l st x).2=true\/st=0:=by
   cases hc:(Md l st x).2 with
   |true=>exact .inl rfl
   |false=>exact .inr (iP fun h=>hg ⟨hc,h⟩)
  refine Bb (hj st at_ (by omega) buf q h hq hl h0 [] (by simp) true [] Still.nil _ (by simp[Tr.na]) (by simp[Tr.na]) (by simp[Tr.na])) ?_;rintro r ⟨E',nl',buf',h',Y',rfl,r4,rq,rY,rn⟩;simp -implicitDefEqProofs only[SX,sevalprocAttr,O1,r4];subst hQ;have hb:B=((rm ss l q st x).1,(rm ss l q st x).2.1):=by
   rw[hB];unfold rm
   by_cases h1:(Md l st x).2=true
   ·rw[if_pos h1,if_pos h1]
    by_cases h2:(Md l st x).1= -1
    ·rw[if_pos h2,if_pos h2]
    ·rw[qa h2,qa h2]
   ·have Yp:=hz.1 (h0.resolve_left h1)
    rw[qa h1,qa h1,if_pos Yp,Yp];rfl
  have zT:stays l 0 (rm ss l q st x).2.1=some (rm ss l q st x).2.2:=by
   unfold rm
   split
   ·next h1=>
    split
    ·rfl
    ·next h2=>exact jV hs h1 h2
   ·rfl
  rw[hb];exact⟨nl',buf',h',_,.tok 5 _ nl'::Y',rfl,rq,zT,(Still.tok 5 _ nl').cons rY,fun h=>(rn h).2,by simp⟩
end
theorem Nab{ss:List ya}{l:List (List Oa)}{h:List Int}{st x:Int}(hb:(zi ss l true h st x).1.any dm=true):(zi ss l true h st x).1.length=1:=by
 unfold zi at hb ⊢
 repeat' split
 all_goals first | rfl | (simp_all [dm])
theorem Mab{ss:List ya}{l:List (List Oa)}{s:Bool}{h:List Int}{st x:Int}:(zi ss l s h st x).1.length<=2/\(zi ss l s h st x).2.length<=h.length+1/\((zi ss l s h st x).1.map (·.size)).sum+(zi ss l s h st x).2.length<=h.length+1/\∀ y∈(zi ss l s h st x).2,y∈h\/y=x:=by
 unfold zi bu
 repeat' split
 all_goals simp
 all_goals first | omega | skip
def Ux(k a n u:Int):fa:= .box ((Dd k a n u).map .pv)
section
variable {call:Ab}{A:List fa}{d c:Nat}(hA:Pd A)(h2:uv A d c){T:PV}{bad st at_ Ea:Int}{fin:Bool}{buf:List Int}{h m:Int}{X:List fa}(hX:Still X)
include hA h2 hX
theorem Bae{evs:List qf}{p:Nat}(mf:bad=3->evs.any dm=true->evs.length=1)(hlen:evs.length<=2){out:List PV}(Gi:out.length<=1000000000){nl nl2:Bool}{Y:List fa}(hY:Still Y){B:AV}{n i:Int}{id2:Nat}(Ma:id2 < A.length+X.length+1+Y.length)(hkB:AV.qc (A.length+X.length+1+Y.length) deep B=true)
 {E0:Tr} (g0:E0.get 0= .ptr d 0) (g7:E0.get 7= .uq (A.length+X.length) nl 5 out) (g38:E0.get 38=B) (g39:E0.get 39= .pv (aa n)) (g40:E0.get 40= .pv (aa i)) (g46:E0.get 46= .uq id2 nl2 5 (Xb p evs)) (Ip:E0.get 47= .pv (aa evs.length)) (g48:E0.get 48= .pv (aa 0)):
 Ia (fun r=>r.1.stop=true/\∃ E nl' Y',r=(if bad=3/\evs.any dm=true then .exit 0 else .exit 2,⟨E,Ff A d c (Wb T bad c st at_ Ea (decide (bad=3/\evs.any dm=true)) fin) (Dc buf 8 h m) X (out++Xb p evs).length nl' Y'⟩)/\Still Y'/\E.get 0= .ptr d 0/\E.get 7= .uq (A.length+X.length) nl' 5 (out++Xb p evs)/\E.get 38=B/\E.get 39= .pv (aa n)/\E.get 40= .pv (aa i)/\(nl'=true->nl=true/\evs=[]))
  (ua call (.loop [0,7,38,39,40,46,47,48] jD) ⟨E0,Ff A d c (Wb T bad c st at_ Ea false fin) (Dc buf 8 h m) X out.length nl Y⟩):=by
 obtain⟨K,hK⟩:∃ K:fa->Nat->Bool->List fa->List fa,K=fun o1 m' nl Y=>Ff A d c o1 (Dc buf 8 h m) X m' nl Y:=⟨_,rfl⟩;have Yq:∀ o1 m' nl Y,Ff A d c o1 (Dc buf 8 h m) X m' nl Y=K o1 m' nl Y:=fun o1 m' nl Y=>by rw[hK]
 have gd:∀ o1 m' nl Y,(K o1 m' nl Y)[d]? =some o1:=fun o1 m' nl Y=>by rw[hK];exact Fy h2
 have sd:∀ o1 m' nl Y o,(K o1 m' nl Y).set d o=K o m' nl Y:=fun o1 m' nl Y o=>by rw[hK];exact qT h2
 have kl:∀ o1 m' nl Y,(K o1 m' nl Y).length=A.length+X.length+1+Y.length:=fun o1 m' nl Y=>by rw[hK];show (Hc _ _ _ _ _ _).length=_;rw[Wp];simp;omega
 have kx:∀ o1 m' nl Y Z,K o1 m' nl Y++Z=K o1 m' nl (Y++Z):=fun o1 m' nl Y Z=>by rw[hK];show Hc _ _ _ _ _ _++_=Hc _ _ _ _ _ _;rw[Ey,Ij];rfl
 have kg:∀ sp m' nl Y,Still Y->Pd (K (Wb T bad c st at_ Ea sp fin) m' nl Y):=fun sp m' nl Y hY=>by rw[hK];exact vI hA h2 (hX.Ff hY)
 have HI:∀ o1 m' nl Y r,(K o1 m' nl (Y++[.box (List.map AV.pv r)]))[A.length+X.length+1+Y.length]? =some (.box (r.map .pv)):=fun o1 m' nl Y r=>by rw[<- kx,Tg (by rw[kl];exact gb _),kl,Kq];rfl
 have S1:∀ o1 m' nl Y r r',(K o1 m' nl (Y++[.box (List.map AV.pv r)])).set (A.length+X.length+1+Y.length) (.box (r'.map .pv))=K o1 m' nl (Y++[.box (List.map AV.pv r')]):=fun o1 m' nl Y r r'=>by rw[<- kx,Po _ _ (by rw[kl];exact gb _),kl,Kq,<-kx];rfl
 have pd:∀ sp m' nl Y k,place (K (Wb T bad c st at_ Ea sp fin) m' nl Y) k (.ptr d 0)=some (.ptr d k):=fun sp m' nl Y k=>JA (gd _ _ _ _) k;have fq:=fun sp m' nl Y=>IA (gd (Wb T bad c st at_ Ea sp fin) m' nl Y);have s6:∀ sp m' nl Y (v:Bool),Db (K (Wb T bad c st at_ Ea sp fin) m' nl Y) 1 (.ptr d 6) (.pv (.bool v))=some (K (Wb T bad c st at_ Ea v fin) m' nl Y):=fun sp m' nl Y v=>by rw[jad (gd _ _ _ _),sd]
 simp only[Yq];refine Aw (σ:=Nat×List PV×Bool) (fun x=>[(0,.ptr d 0),(7,.uq (A.length+X.length) x.2.2 5 x.2.1),(38,B),(39,.pv (aa n)),(40,.pv (aa i)),(46,.uq id2 nl2 5 (Xb p evs)),(47,.pv (aa evs.length)),(48,.pv (aa x.1))])
  (fun x=>K (Wb T bad c st at_ Ea false fin) x.2.1.length x.2.2 Y) (fun k x=>x.1=k/\x.2.1=out++(Xb p evs).take k/\(x.2.2=true->nl=true/\k=0)/\(bad=3->evs.any dm=true->k=0)) evs.length (by unfold Ga;omega) (fun _=>rfl) ?_ ?_ ?_ ?_
 ·rintro k x _
  rw[kl,kl];have:=h2.ld
  exact⟨by simp[fm,tw,WE,Ma,hkB,show d < A.length+X.length+1+Y.length by omega,show A.length+X.length < A.length+X.length+1+Y.length by omega],fun o ho=>kg _ _ _ _ hY _ (by rw[kl];exact gb _) o ho,rfl⟩
 ·exact⟨(0,out,nl),⟨g0,g7,g38,g39,g40,g46,Ip,g48,trivial⟩,rfl,rfl,by simp,fun h=>⟨h,rfl⟩,fun _ _=>rfl⟩
 ·rintro _ ⟨k,acc,nl'⟩ E hi ⟨rfl,Wv,Wc,zc⟩ ⟨g0,g7,g38,g39,g40,g46,Ip,g48,_⟩
  simp only at hi Wv Wc zc g0 g7 g38 g39 g40 g46 Ip g48;obtain⟨pl,Da⟩:=ER p evs k hi;have hL:(Xb p evs).length=evs.length:=zj p evs
  have od:(Xb p evs).take (k+1)=(Xb p evs).take k++[Jd evs[k] pl]:=by rw[GK,Da];rfl
  have sn:evs[k].kind=2->evs.any dm=true:=fun h=>OC.2 ⟨_,ic hi,by simp[dm,h]⟩
  have hnb:bad=3->evs[k].kind≠2->evs.any dm=false:=fun h3 Qe=>by
   cases hb:evs.any dm with
   |false=>rfl
   |true=>
    have h1:=mf h3 hb
    match evs,h1,hi,Qe,hb,zc h3 hb with
    | [e],_,hi,Qe,hb,Bn=>subst Bn;simp[dm] at hb Qe;exact absurd hb Qe
  have qS:acc.length<=1000000002:=by rw[Wv,Pc,ij];omega
  have e1:decide ((k:Int) < (evs.length:Int))=true:=Qa (by omega);have t1:IntKind.i64.wrap ((k:Int)+1)=((k+1:Nat):Int):=sm (by omega)
  have a1:∀ H,Ua H 5 (.uq id2 nl2 5 (Xb p evs)) (k:Int)=some (.pv (.rp (Dd evs[k].kind pl evs[k].size evs[k].u) 0)):=fun H=>by simp only[Ua];rw[if_pos ⟨trivial,by unfold Ta;omega⟩,Uc,Da];rfl
  have a2:∀ H,wa H true 5 (.pv (.rp (Dd evs[k].kind pl evs[k].size evs[k].u) 0))=some (.pv (Jd evs[k] pl)):=fun H=>rfl;have hz:∀ o1 m' nl,K o1 m' nl Y++[.box [.pv (.int .i64 0),.pv (.int .i64 0),.pv (.int .i64 0),.pv (.int .i64 0),.pv (.int .i64 0)]]=K o1 m' nl (Y++[Ux 0 0 0 0]):=fun o1 m' nl=>kx o1 m' nl Y _;have sT:∀ m' nl,Db (K (Wb T bad c st at_ Ea false fin) m' nl (Y++[Ux 0 0 0 0])) 5 (.ptr (A.length+X.length+1+Y.length) 0) (.pv (Jd evs[k] pl))=some (K (Wb T bad c st at_ Ea false fin) m' nl (Y++[Ux evs[k].kind pl evs[k].size evs[k].u])):=fun m' nl=>by have:=MQ (b:=Dd evs[k].kind pl evs[k].size evs[k].u) (HI (Wb T bad c st at_ Ea false fin) m' nl Y (Dd 0 0 0 0)) rfl rfl DR;rw[S1] at this;exact this
  have lT:∀ m' nl,wa (K (Wb T bad c st at_ Ea false fin) m' nl (Y++[Ux evs[k].kind pl evs[k].size evs[k].u])) true 5 (.ptr (A.length+X.length+1+Y.length) 0)=some (.pv (Jd evs[k] pl)):=fun m' nl=>KQ (HI _ _ _ _ _) rfl;have pe:∀ m' nl j,place (K (Wb T bad c st at_ Ea false fin) m' nl (Y++[Ux evs[k].kind pl evs[k].size evs[k].u])) j (.ptr (A.length+X.length+1+Y.length) 0)=some (.ptr (A.length+X.length+1+Y.length) j):=fun m' nl j=>FA (HI _ _ _ _ _) j;have l0:∀ m' nl,wa (K (Wb T bad c st at_ Ea false fin) m' nl (Y++[Ux evs[k].kind pl evs[k].size evs[k].u])) false 1 (.ptr (A.length+X.length+1+Y.length) 0)=some (.pv (aa evs[k].kind)):=fun m' nl=>Fv (HI _ _ _ _ _) rfl;have ap:∀ Y e,Ud (K (Wb T bad c st at_ Ea false fin) acc.length nl' Y) false .uq 5 true 40 (.uq (A.length+X.length) nl' 5 acc) (.pv (.lit 5 [e]))=some (.uq (A.length+X.length) false 5 (acc++[e]),K (Wb T bad c st at_ Ea false fin) (acc++[e]).length false Y):=fun Y e=>by rw[hK];exact rT e rfl (by omega)
  have bo:∀ (e:qf)(a:Int)(H:List fa),((if (List.map AV.pv (Jd e a).cells).length=5/\(List.map AV.pv (Jd e a).cells).all AV.one=true then some (za [AV.pv (PV.int IntKind.i64 0),AV.pv (PV.int IntKind.i64 0),AV.pv (PV.int IntKind.i64 0),AV.pv (PV.int IntKind.i64 0),AV.pv (PV.int IntKind.i64 0)] 0 (List.map AV.pv (Jd e a).cells)) else none).bind fun cs=>
   if cs.all AV.one=true then Option.map (fun ps=>(AV.pv (PV.lit 5 [PV.agg (List.take 5 ps)]),H)) (bd cs) else none)=some (.pv (.lit 5 [Jd e a]),H):=fun e a H=>rfl
  have hYb:=hY.app (Still.box (Dd evs[k].kind pl evs[k].size evs[k].u))
  clear hK Yq gd sd HI S1;generalize evs[k]=e at *;generalize hQ:RH _ _ _ _=Q
  by_cases Qe:e.kind=2
  ·have e2:(e.kind==2)=true:=by rw[Qe];rfl
   by_cases h3:bad=3
   ·have e3:(bad==3)=true:=by rw[h3];rfl
    simp -implicitDefEqProofs only[SX,sevalprocAttr,jD,g0,g7,g38,g39,g40,g46,Ip,g48,e1,a1,a2,hz,kl,sT,lT,bo,ap,pe,l0,e2,pd,fq,e3,s6];subst hQ;have Bn:=zc h3 (sn Qe);have h1:=mf h3 (sn Qe);subst Bn;have hw:acc++[Jd e pl]=out++Xb p evs:=by
     rw[Wv,Ij]
     congr 1
     rw[<- od,Ih (by omega)]
    rw[if_pos ⟨h3,sn Qe⟩,decide_eq_true ⟨h3,sn Qe⟩,<-hw];exact⟨_,false,_,rfl,hYb,by simp[Tr.na,g0],by simp[Tr.na],by simp[Tr.na,g38],by simp[Tr.na,g39],by simp[Tr.na,g40],fun h=>by cases h⟩
   ·have e3:(bad==3)=false:=beq_false_of_ne h3
    simp -implicitDefEqProofs only[SX,sevalprocAttr,jD,g0,g7,g38,g39,g40,g46,Ip,g48,e1,a1,a2,hz,kl,sT,lT,bo,ap,pe,l0,e2,pd,fq,e3,t1];subst hQ;exact⟨(k+1,acc++[Jd e pl],false),[Ux e.kind pl e.size e.u],by simp[Has,Tr.na,g0,g38,g39,g40,g46,Ip],(kx _ _ _ _ _).symm,rfl,by rw[od,Wv,Ij],(fun h=>by cases h),fun h=>absurd h h3⟩
  ·have e2:(e.kind==2)=false:=beq_false_of_ne Qe
   simp -implicitDefEqProofs only[SX,sevalprocAttr,jD,g0,g7,g38,g39,g40,g46,Ip,g48,e1,a1,a2,hz,kl,sT,lT,bo,ap,pe,l0,e2,pd,fq,t1];subst hQ;exact⟨(k+1,acc++[Jd e pl],false),[Ux e.kind pl e.size e.u],by simp[Has,Tr.na,g0,g38,g39,g40,g46,Ip],(kx _ _ _ _ _).symm,rfl,by rw[od,Wv,Ij],(fun h=>by cases h),fun h3 h=>by rw[hnb h3 Qe] at h;cases h⟩
 ·rintro⟨k,acc,nl'⟩ E ⟨hk,Wv,Wc,zc⟩ ⟨g0,g7,g38,g39,g40,g46,Ip,g48,_⟩
  simp only at hk Wv Wc zc g0 g7 g38 g39 g40 g46 Ip g48 ⊢;subst hk;have hL:(Xb p evs).length=evs.length:=zj p evs
  rw[Ih (by omega)] at Wv;have Uj:¬(bad=3/\evs.any dm=true):=fun h=>by
   have:=zc h.1 h.2
   have:=mf h.1 h.2
   omega
  rw[qa Uj,decide_eq_false Uj];have e1:decide ((evs.length:Int) < (evs.length:Int))=false:=Ra (by omega);generalize hQ:(fun r:Ex×St=>r.1.stop=true/\_)=Q;simp -implicitDefEqProofs only[SX,sevalprocAttr,jD,Ip,g48,e1];subst hQ;subst Wv;exact⟨rfl,_,nl',Y,rfl,hY,by simp[Tr.na,g0],by simp[Tr.na,g7],by simp[Tr.na,g38],by simp[Tr.na,g39],by simp[Tr.na,g40],fun h=>⟨(Wc h).1,Ze (Wc h).2⟩⟩
end
def vg(l:List qf):Nat:=(l.map (·.size)).sum
theorem qV(a b:List qf):vg (a++b)=vg a+vg b:=by simp[vg]
structure Lt(U:AV)(bs:List Int)(n0:Nat):Prop where
 len:∀ H,mb H 0 U=some bs.length
 ZC:∀ H (i:Nat) (h:i < bs.length),Ua H 1 U (i:Int)=some (.pv (.rp [u8 bs[i]] 0))
 qc:∀ n,n0<=n->AV.qc n deep U=true
 jg:∀ b∈bs,0<=b/\b<=255
theorem Lt.of{B:PV}{bs:List Int}(h:Oh B bs)(n0:Nat):Lt (.pv B) bs n0:=⟨h.mb,fun H i hi=>h.Nd hi H,fun n _=>fm B,h.jg⟩
theorem Lt.uq{bs:List Int}(hr:∀ b∈bs,0<=b/\b<=255){id n0:Nat}(nl:Bool)(h:id < n0):Lt (.uq id nl 1 (bs.map u8)) bs n0:=by
 refine⟨fun H=>by simp[mb],fun H i hi=> ?_,fun n hn=>WE (by omega),hr⟩;simp only[Ua];rw[if_pos ⟨trivial,by unfold Ta;rw[wb];omega⟩,Uc,Gd,Rb hi];rfl
section
variable {T:PV}{ss:List ya}{l:List (List Oa)}(hT:wk T ss l)(ga:uc ss)(ho:∀ e∈l,Kl e)(wc:Ee ss)(ha:bf ss=some l)
variable {call call' call'' call3:Ab}{A:List fa}{d c:Nat}(hA:Pd A)(h2:uv A d c){bad Ea:Int}{ab fin:Bool}
 (h90:∀ H (x:Int),call 90 [.ptr d 0,.pv (u8 x)] H=Gc call' jA [.ptr d 0,.pv (u8 x)] H)
 (h89:∀ H (k:Int),call' 89 [.ptr d 0,.pv (aa k)] H=Gc call'' Cs [.ptr d 0,.pv (aa k)] H)
 (h81:∀ H (x:Int),call' 81 [.ptr c 0,.pv (u8 x)] H=Gc call'' Av [.ptr c 0,.pv (u8 x)] H)
 (h82:∀ H (n:Int),call'' 82 [.ptr c 0,.pv (aa n)] H=Gc call3 Bs [.ptr c 0,.pv (aa n)] H) (h83:∀ H,call'' 83 [.ptr c 0] H=Gc call3 As [.ptr c 0] H)
include hT ga ho wc ha hA h2 h90 h89 h81 h82 h83
theorem Cae{a0:Nat}(ha0:a0<=65536){B:AV}{bs:List Int}(hB:Lt B bs A.length)(Vl:bs.length<=65536){X:List fa}(hX:Still X){Oq q0:List Int}{h0:Nat}{rj:Int}(Yp:oh Oq h0 q0)(gw:stays l 0 q0=some rj)
 {E0:Tr} (g0:E0.get 0= .ptr d 0) (g7:E0.get 7= .uq (A.length+X.length) true 5 []) (g38:E0.get 38=B) (g39:E0.get 39= .pv (aa bs.length)) (g40:E0.get 40= .pv (aa 0)):
 Ia (fun r=>r.1.stop=true/\∃ (E:Tr)(nl:Bool)(Y:List fa)(buf q:List Int)(h:Nat)(st:Int)(out:List qf)(sp:Bool),r=(.exit 0,⟨E,Ff A d c (Wb T bad c st ((a0+vg out:Nat):Int) Ea sp fin) (Dc buf 8 h q.length) X (Xb a0 out).length nl Y⟩)/\E.get 7= .uq (A.length+X.length) nl 5 (Xb a0 out)/\Still Y/\oh buf h q/\stays l 0 q=some st/\
  Ci ss l (bad==3) q0 bs=(out,q,sp)/\(nl=true->out=[]))
  (ua call (.loop [0,7,38,39,40] WK) ⟨E0,Ff A d c (Wb T bad c rj a0 Ea false fin) (Dc Oq 8 h0 q0.length) X 0 true []⟩):=by
 have hlB:=hB.len
 have hq8:=UM ga wc ha Yp.jg gw
 refine Aw (σ:=Nat×List Int×Nat×List Int×Int×List qf×Bool) (fun x=>[(0,.ptr d 0),(7,.uq (A.length+X.length) x.2.2.2.2.2.2 5 (Xb a0 x.2.2.2.2.2.1)),(38,B),(39,.pv (aa bs.length)),(40,.pv (aa x.1))])
  (fun x=>Ff A d c (Wb T bad c x.2.2.2.2.1 ((a0+vg x.2.2.2.2.2.1:Nat):Int) Ea false fin) (Dc x.2.1 8 x.2.2.1 x.2.2.2.1.length) X (Xb a0 x.2.2.2.2.2.1).length x.2.2.2.2.2.2 [])
  (fun k x=>x.1=k/\oh x.2.1 x.2.2.1 x.2.2.2.1/\stays l 0 x.2.2.2.1=some x.2.2.2.2.1/\Ci ss l (bad==3) q0 bs=(x.2.2.2.2.2.1++(Ci ss l (bad==3) x.2.2.2.1 (bs.drop k)).1,(Ci ss l (bad==3) x.2.2.2.1 (bs.drop k)).2)/\(x.2.2.2.2.2.2=true->x.2.2.2.2.2.1=[])/\vg x.2.2.2.2.2.1+x.2.2.2.1.length<=q0.length+k/\x.2.2.2.2.2.1.length<=2 * k)
  bs.length (by unfold Ga;omega) (fun _=>rfl) ?_ ?_ ?_ ?_
 ·rintro k x _
  have hl:∀ o1 o2 n nl,(Ff A d c o1 o2 X n nl []).length=A.length+X.length+1:=fun o1 o2 n nl=>by unfold Ff;rw[Wp];simp;omega
  rw[hl,hl];have:=h2.ld
  exact⟨by simp[fm,tw,WE,hB.qc (A.length+X.length+1) (by omega),show d < A.length+X.length+1 by omega,show A.length+X.length < A.length+X.length+1 by omega],fun o Xs=>vI hA h2 (hX.Ff Still.nil) _ (by rw[Wp];simp;omega) o Xs,rfl⟩
 ·exact⟨(0,Oq,h0,q0,rj,[],true),⟨g0,g7,g38,g39,g40,trivial⟩,rfl,rfl,Yp,gw,rfl,fun _=>rfl,by simp[vg],gb _⟩
 ·rintro _ ⟨i,buf,h,q,st,out,nl⟩ E hi ⟨rfl,hq,hs,hf,Wc,ib,vr⟩ ⟨g0,g7,g38,g39,g40,_⟩
  simp only at hi hq hs hf Wc ib vr g0 g7 g38 g39 g40;have Haj:=UM ga wc ha hq.jg hs
  have hx:=hB.jg _ (ic hi)
  have hz:st=0↔q=[]:=⟨fun h=>Vaq ga wc ha hq.jg (by rw[hs,h]),fun h=>by subst h;injection hs with hs;exact hs.symm⟩;have e1:decide ((i:Int) < (bs.length:Int))=true:=Qa (by omega);have t1:IntKind.i64.wrap ((i:Int)+1)=((i+1:Nat):Int):=sm (by omega)
  have sB:=fun H=>hB.ZC H i hi
  rw[Hh hi,Ci,hs,ov] at hf;generalize bs[i]=x at *;have hX1:Still (X++[.tok 5 (Xb a0 out).length nl]):=hX.app (Still.tok _ _ _)
  obtain⟨Bt,MH⟩:∃ Bt,Bt=zi ss l (bad==3) q st x:=⟨_,rfl⟩;obtain⟨r,hr,nl2,buf',h',st',Y,rfl,Zs,Hu,hY,yo,hYn⟩:=wg (Pab hT ga ho hA h2 h89 h81 h82 h83 (bad:=bad) (Ea:=Ea) (ab:=false) (fin:=fin) (at_:=a0+vg out) (by omega) hq Haj hs hz hx hX1 MH);rw[<- h90] at hr;rw[<- MH] at hf;have ff:=Mab (ss:=ss) (l:=l) (s:=bad==3) (h:=q) (st:=st) (x:=x);rw[<- MH] at ff;have Bj:(X++[fa.tok 5 (Xb a0 out).length nl]).length=X.length+1:=by simp
  have ZA:0 < Y.length:=Vn.2 hYn
  have mf:bad=3->Bt.1.any dm=true->Bt.1.length=1:=fun h3 hb=>by
   have e3:(bad==3)=true:=by rw[h3];rfl
   rw[e3] at MH;rw[MH] at hb ⊢;exact Nab hb
  have vd:Hc A d c (Wb T bad c st' ((a0+vg out+(Bt.1.map (·.size)).sum:Nat):Int) Ea false fin) (Dc buf' 8 h' Bt.2.length) ((X++[fa.tok 5 (Xb a0 out).length nl])++Y)=Ff A d c (Wb T bad c st' ((a0+vg out+(Bt.1.map (·.size)).sum:Nat):Int) Ea false fin) (Dc buf' 8 h' Bt.2.length) X (Xb a0 out).length nl Y:=by unfold Ff;rw[Ij];rfl
  rw[vd,Bj] at hr;have Bf:call 90 [.ptr d 0,.pv (u8 x)] (Ff A d c (Wb T bad c st ((a0+vg out:Nat):Int) Ea false fin) (Dc buf 8 h q.length) X (Xb a0 out).length nl [])=some (.uq (A.length+(X.length+1)) nl2 5 (Xb (a0+vg out) Bt.1),Ff A d c (Wb T bad c st' ((a0+vg out+(Bt.1.map (·.size)).sum:Nat):Int) Ea false fin) (Dc buf' 8 h' Bt.2.length) X (Xb a0 out).length nl Y):=hr;have Tf:=fun E0=>Bae (call:=call) (bad:=bad) (st:=st') (at_:=((a0+vg out+(Bt.1.map (·.size)).sum:Nat):Int)) (Ea:=Ea) (fin:=fin) (buf:=buf') (h:=h') (m:=Bt.2.length) hA h2 (T:=T) hX (p:=a0+vg out) mf ff.1 (out:=Xb a0 out) (by rw[zj];omega) (nl:=nl) (nl2:=nl2) hY (B:=B) (n:=bs.length) (i:=i) (id2:=A.length+(X.length+1)) (by omega) (hB.qc _ (by omega)) (E0:=E0)
  have YY:Xb a0 out++Xb (a0+vg out) Bt.1=Xb a0 (out++Bt.1):=(jM a0 out Bt.1).symm
  have Uaj:a0+vg out+(Bt.1.map (·.size)).sum=a0+vg (out++Bt.1):=by rw[qV];show _+_+vg Bt.1=_;omega
  have aau:(Bt.1.map (·.size)).sum=vg Bt.1:=rfl
  generalize hQ:RH _ _ _ _=Q;simp -implicitDefEqProofs only[SX,sevalprocAttr,-List.reduceReplicate,WK,g0,g7,g38,g39,g40,e1,sB,Xd,Bf,AN];refine Bb (Tf _ (by simp[Tr.na,g0]) (by simp[Tr.na,g7]) (by simp[Tr.na,g38]) (by simp[Tr.na,g39]) (by simp[Tr.na,g40]) (by simp[Tr.na]) (by simp[Tr.na,zj]) (by simp[Tr.na])) ?_;rintro r ⟨_,E2,xh,Y3,rfl,hY3,r0,r7,I6,J6,r40,rn⟩;rw[YY] at r7;rw[YY,Uaj]
  by_cases hsp:bad=3/\Bt.1.any dm=true
  ·have e3:(bad==3)=true:=by rw[hsp.1];rfl
   rw[if_pos hsp,decide_eq_true hsp];simp -implicitDefEqProofs only[SX,sevalprocAttr,-List.reduceReplicate];subst hQ;simp only[e3,hsp.2,vz,if_true] at hf;refine⟨E2,xh,Y3,buf',Bt.2,h',st',out++Bt.1,true,rfl,r7,hY3,Zs,Hu,by rw[e3];exact hf,fun h=> ?_⟩;rw[Wc (rn h).1,(rn h).2];rfl
  ·have e3:(bad==3&&Bt.1.any dm)=false:=by
    cases hb:(bad==3) with
    |false=>rfl
    |true=>
     have:bad=3:=by simpa using hb
     cases hc:Bt.1.any dm with
     |false=>rfl
     |true=>exact absurd ⟨this,hc⟩ hsp
   rw[qa hsp,decide_eq_false hsp];simp -implicitDefEqProofs only[SX,sevalprocAttr,-List.reduceReplicate,r0,r7,I6,J6,r40,t1];subst hQ;rw[e3,qa (by simp)] at hf;refine⟨(i+1,buf',h',Bt.2,st',out++Bt.1,xh),Y3,by simp[Has,Tr.na,r0,r7,I6,J6],?_,rfl,Zs,Hu,?_,fun h=> ?_,?_,?_⟩
   ·show _=Hc _ _ _ _ _ _++_
    rw[Ey,Ij];rfl
   ·rw[hf];simp only[Ij]
   ·rw[Wc (rn h).1,(rn h).2];rfl
   ·have:=ff.2.2.1
    show vg (out++Bt.1)+Bt.2.length<=_
    rw[qV];omega
   ·show (out++Bt.1).length<=_
    rw[Pc];omega
 ·rintro⟨i,buf,h,q,st,out,nl⟩ E ⟨rfl,hq,hs,hf,Wc,ib,vr⟩ ⟨g0,g7,g38,g39,g40,_⟩
  simp only at hq hs hf Wc ib vr g0 g7 g38 g39 g40 ⊢;have e1:decide ((bs.length:Int) < (bs.length:Int))=false:=Ra (by omega);rw[Zh,Ci,yi] at hf;generalize hQ:(fun r:Ex×St=>r.1.stop=true/\_)=Q;simp -implicitDefEqProofs only[SX,sevalprocAttr,-List.reduceReplicate,WK,g39,g40,e1];subst hQ;exact⟨rfl,_,nl,[],buf,q,h,st,out,false,rfl,by simp[Tr.na,g7],Still.nil,hq,hs,hf,Wc⟩
structure Tn where
 buf:List Int
 h:Nat
 q:List Int
 st:Int
 at_:Nat
 Ea:Int
 ab:Bool
 fin:Bool
theorem sad{s:Tn}(hd:A[d]? =some (Wb T bad c s.st s.at_ s.Ea false false))(hc:A[c]? =some (Dc s.buf 8 s.h s.q.length))(hq:oh s.buf s.h s.q)(hs:stays l 0 s.q=some s.st){U:AV}{bs:List Int}(hU:Lt U bs A.length)
 (ht0:0<=s.Ea) (ht1:s.Ea+bs.length<=65536) (pg:s.at_<=65536):
 Ia (fun r=>∃ (nl:Bool)(Y:List fa)(buf q:List Int)(h:Nat)(st:Int)(out:List qf)(sp:Bool),r=(.Ba [.uq A.length nl 5 (Xb s.at_ out),.pv (aa 0)],Hc A d c (Wb T bad c st ((s.at_+vg out:Nat):Int) (s.Ea+bs.length) sp false) (Dc buf 8 h q.length) Y)/\Still Y/\oh buf h q/\stays l 0 q=some st/\
  Ci ss l (bad==3) s.q bs=(out,q,sp)/\(nl=true->out=[])/\0 < Y.length)
  (Gc call iD [.ptr d 0,U] A):=by
 have lU:=hU.len
 have tp:=PL hd hc;have pd:=JA hd;have ld:=IA hd;have hf:=pX (T:=T) (bad:=bad) (C:= .rp (ie s.buf 8 s.h s.q.length) 0) (st:=s.st) (at_:=s.at_) (Ea:=s.Ea) (ab:=false) (fin:=false);rw[qa (by simp),qa (by simp)] at hf;have w1:IntKind.i64.wrap (65536 - s.Ea)=65536 - s.Ea:=Gb (by omega)
 have w2:IntKind.i64.wrap (s.Ea+(bs.length:Int))=s.Ea+bs.length:=Gb (by omega)
 have fl:∀ n:Int,Eh (aa n)=true:=fun n=>rfl;have d1:decide ((bs.length:Int) > 65536 - s.Ea)=false:=decide_eq_false (by omega);have z0:((0:Int)==0)=true:=rfl;have z1:((0:Int) != 0)=false:=rfl;have s5:Db A 1 (.ptr d 5) (.pv (.int .i64 (s.Ea+bs.length)))=some (Hc A d c (Wb T bad c s.st s.at_ (s.Ea+bs.length) false false) (Dc s.buf 8 s.h s.q.length) []):=by
  rw[iad hd]
  congr 1
  unfold Hc;rw[yi];obtain⟨hl,hg⟩:=Ad.1 hc
  have:(A.set d (Wb T bad c s.st s.at_ (s.Ea+bs.length) false false))[c]? =some (Dc s.buf 8 s.h s.q.length):=by rw[ze h2.ne];exact hc
  obtain⟨Uf,QS⟩:=Ad.1 this
  rw[<- QS];exact (List.set_getElem_self _).symm
 have gh:∀ E:Tr,E.get 7= .pv .oa->∀ o1 o2,Af (.Ln 7 5) ⟨E,Hc A d c o1 o2 []⟩=some ⟨E.set 7 (.uq A.length true 5 []),Ff A d c o1 o2 [] 0 true []⟩:=fun E h o1 o2=>by simp only[Af,h,Wp,Ey];rfl
 have yc:=fun E0=>Cae (call:=call) (call':=call') (call'':=call'') (call3:=call3) hT ga ho wc ha hA h2 h90 h89 h81 h82 h83 (bad:=bad) (Ea:=s.Ea+bs.length) (fin:=false) (a0:=s.at_) pg hU (by omega) (X:=[]) Still.nil hq hs (E0:=E0)
 generalize mi T bad (.rp (ie s.buf 8 s.h s.q.length) 0) s.st s.at_ s.Ea false false=row at *
 generalize hQ:(fun r:AV×List fa=>∃ (nl:Bool)(Y:List fa)(buf q:List Int)(h:Nat)(st:Int)(out:List qf)(sp:Bool),r=_/\_)=Q;simp -implicitDefEqProofs only[SP,WP,sevalprocAttr,-List.reduceReplicate,iD,lU,tp,pd,ld,hf,fl,w1,d1,z0,z1,w2,s5,KF,gh,Tr.na];refine Bb (yc _ (by simp[Tr.na]) (by simp[Tr.na]) (by simp[Tr.na]) (by simp[Tr.na]) (by simp[Tr.na])) ?_;rintro r ⟨_,E,nl,Y,buf,q,h,st,out,sp,rfl,r7,hY,rq,rs,rf,rn⟩;simp -implicitDefEqProofs only[SP,WP,sevalprocAttr,-List.reduceReplicate,r7];subst hQ;exact⟨nl,.tok 5 (Xb s.at_ out).length nl::Y,buf,q,h,st,out,sp,rfl,(Still.tok _ _ _).cons hY,rq,rs,rf,rn,by simp⟩
end
theorem dae{ss:List ya}(h:∀ s∈ss,∀ l∈s.ba,l.length<=1000)(h2:∀ s∈ss,s.ba.length<=1000)(h3:ss.length<=1000):zd (.lit 2 (ss.map dg)) ss (ss.map dg):=by
 refine⟨.inr rfl,by rw[wb],fun k e s he hs=> ?_,by unfold maxLen;omega⟩;rw[Gd,hs] at he;injection he with he
 have hm:=vj hs;refine⟨_,_,he.symm,.inr rfl,by rw[wb],fun j v l hv hl=> ?_,by have:=h2 s hm;unfold maxLen;omega⟩;rw[Gd,hl] at hv;injection hv with hv
 have:=h s hm l (vj hl);exact⟨.inr hv.symm,by omega⟩
theorem Qac{ss:List ya}{l:List (List Oa)}{a b c d:Int}(hh:zd (.lit 2 (ss.map dg)) ss (ss.map dg))(hv:Zu [.agg [.lit 2 (ss.map dg)]]=some (.bool true))(hp:Qr [.agg [.lit 2 (ss.map dg)]]=some (.Ba [.agg [.bool true,aa a,aa b],aa 0]))
 (hi:ax [.agg [.lit 2 (ss.map dg)]]=some (.Ba [.agg [.bool true,aa c,aa d],aa 0])) (ha:bf ss=some l):
 uc ss/\∃ T,rk [.agg [.lit 2 (ss.map dg)]]=some (.Ba [T,aa 0])/\wk T ss l/\∀ e∈l,Kl e:=by
 obtain⟨x,h1,h2⟩:=yO hh;rw[hv] at h1;injection h1 with h1
 injection h1 with h1
 have ga:=h2.1 h1.symm
 obtain⟨y,a',b',h3,h4⟩:=(B6 hh).2 ga
 rw[hp] at h3;injection h3 with h3
 injection h3 with h3
 injection h3 with h3 _
 injection h3 with h3
 injection h3 with h3 _
 injection h3 with h3
 have wc:=h4.1 h3.symm
 obtain⟨T,t1,t2⟩:=dX hh ga wc ha hi;exact⟨ga,T,t1,t2,uR ga wc ha⟩
theorem jP.of{T:PV}{ss:List ya}{l:List (List Oa)}(hT:wk T ss l)(ga:uc ss):jP T fun u=>cu u ss:=by
 refine⟨fun u=>mar hT ga u,fun u b h=> ?_,?_⟩
 ·obtain⟨s,hs,h1,h2,rfl,_⟩:=DW ga.He h
  have hk:=ga.He s hs
  have:=(tV s.ba (u - s.pa) 0 hk.ba (by omega) (by omega)).2.1
  have:=hk.hi
  omega
 ·obtain⟨S',NX,DG,RW,h,_⟩:=hT.ex
  exact⟨_,h⟩
section
variable {H:List fa}{T:PV}{cd:Int->Option (List Int)}{call:Ab}
end
def Zm:List ya:=[⟨[[(0,127)]],0⟩,⟨[[(194,223)],[(128,191)]],128⟩,⟨[[(225,225)],[(128,191)],[(128,191)]],4096⟩]
theorem Jad:Zu [.agg [.lit 2 (Zm.map dg)]]=some (.bool true):=by kernel_rfl
theorem Iad:Qr [.agg [.lit 2 (Zm.map dg)]]=some (.Ba [.agg [.bool true,aa 0,aa 0],aa 0]):=by kernel_rfl
theorem Had:ax [.agg [.lit 2 (Zm.map dg)]]=some (.Ba [.agg [.bool true,aa 0,aa 0],aa 0]):=by kernel_rfl
def ND:List (List Oa):=[[⟨0,127,-1⟩,⟨194,223,1⟩,⟨225,225,2⟩],[⟨128,191,-1⟩],[⟨128,191,1⟩]]
theorem mR:bf Zm=some ND:=by kernel_rfl
theorem VC.lit(us:List Int)(n0:Nat):VC (.pv (.lit 1 (us.map aa))) us n0:=by
 refine⟨fun H=>by simp[mb],fun H i h=> ?_,fun n hn=>bc⟩;simp only[Ua];rw[if_pos ⟨trivial,by unfold Ta;rw[wb];omega⟩,Uc,Gd,Rb h];rfl
theorem VC.oa(n0:Nat):VC (.pv .oa) [] n0:=⟨fun H=>rfl,fun H i h=>by simp at h,fun n hn=>bc⟩
theorem VC.uq(us:List Int){id n0:Nat}(nl:Bool)(h:id < n0):VC (.uq id nl 1 (us.map aa)) us n0:=by
 refine⟨fun H=>by simp[mb],fun H i h=> ?_,fun n hn=>oH (by omega)⟩;simp only[Ua];rw[if_pos ⟨trivial,by unfold Ta;rw[wb];omega⟩,Uc,Gd,Rb h];rfl
end Go.AM.B1
