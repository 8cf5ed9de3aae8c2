/- What functions of the program compute. -/
import Derived.Test.YtijlhblleiaomaaGreatL8
import Derived.Test.YtijlhblleiaomaaGreatL7
import Derived.Test.YtijlhblleiaomaaGreatL6
import Derived.Test.YtijlhblleiaomaaGreatL2
import Derived.Test.YtijlhblleiaomaaGreatL3
import Derived.Test.YtijlhblleiaomaaGreatL4
import Derived.Test.YtijlhblleiaomaaGreatK3
import Derived.Test.YtijlhblleiaomaaGreatRows
set_option linter.unusedVariables false
set_option linter.unusedSimpArgs false
set_option maxRecDepth 100000
namespace Go.AM.B1
open Go.AM Go.AM.So
section
variable {A:List fa}{c:Nat}{call:Ab}{S R:PV}{ss:List ya}{es:List PV}{un Ea out:Int}{rb:List Int}
structure RJ(H:List fa)(c:Nat)(S R:PV)(un Ea out:Int)(st fin:Bool):Prop where
 ld:∀ o,wa H false 1 (.ptr c o)=tg false 1 [.pv S,.pv (aa un),.pv R,.pv (aa Ea),.pv (aa out),.pv (.bool st),.pv (.bool fin)] o
 pl:∀ d,place H d (.ptr c 0)=some (.ptr c (0+d))
 l0:wa H true 1 (.ptr c 0)=some (.pv (.agg [S]))
 nn:Zd H 1 (.ptr c 0) (.pv .Ic)=some false
theorem RJ.of{H:List fa}{st fin:Bool}(h:H[c]? =some (GX S R un Ea out st fin)):RJ H c S R un Ea out st fin:=by
 have hB:GX S R un Ea out st fin= .box [.pv S,.pv (aa un),.pv R,.pv (aa Ea),.pv (aa out),.pv (.bool st),.pv (.bool fin)]:=rfl
 refine⟨fun o=>by simp only[wa,h,hB],fun d=>Cm h d 0,by simp only[wa,h,hB];rfl,by simp only[Zd,h,hB]⟩
theorem RJ.get{H:List fa}{st fin:Bool}(h:RJ H c S R un Ea out st fin):wa H false 1 (.ptr c 1)=some (.pv (aa un))/\wa H false 1 (.ptr c 2)=some (.pv R)/\wa H false 1 (.ptr c 3)=some (.pv (aa Ea))/\wa H false 1 (.ptr c 4)=some (.pv (aa out))/\wa H false 1 (.ptr c 5)=some (.pv (.bool st))/\wa H false 1 (.ptr c 6)=some (.pv (.bool fin))/\wa H true 1 (.ptr c 0)=some (.pv (.agg [S]))/\∀ d,place H d (.ptr c 0)=some (.ptr c (0+d)):=
 ⟨h.ld _,h.ld _,h.ld _,h.ld _,h.ld _,h.ld _,h.l0,h.pl⟩
end
def zab(l:List Int):ByteArray:=⟨(l.map fun n=>UInt8.ofNat n.toNat).toArray⟩
theorem wW:∀ l:List Int,bytesOf (l.map u8)=some (l.map fun n=>UInt8.ofNat n.toNat)
 | []=>rfl
 |x::l=>by
  show (bytesOf (l.map u8)).map (UInt8.ofNat x.toNat:: ·)=_
  rw[wW l];rfl
theorem TV(H:List fa)(l:List Int):Ut H (.pv (.lit 1 (l.map u8)))=some (zab l):=by
 show (bytesOf (l.map u8)).map _=_
 rw[wW];rfl
def mP(e:PV):Prop:=∃ a b c d f:Int,e= .agg [aa a,aa b,aa c,aa d,aa f]
theorem kae{e:PV}(h:mP e):Sf (.row [1,1,1,1,1]) e e=some true:=by
 obtain⟨a,b,c,d,f,rfl⟩:=h;show Wk [1,1,1,1,1] [aa a,aa b,aa c,aa d,aa f] [aa a,aa b,aa c,aa d,aa f]=_;simp[Wk,Is]
theorem Fap{V W:PV}{evs:List PV}(hV:Pb 5 V evs)(hW:Pb 5 W evs)(he:∀ x∈evs,mP x)(hl:evs.length<=140737488355328):Mt [V,W]=some (.bool true):=by
 have lV:=hV.len
 have lW:=hW.len
 have pg:∀ {V:PV},Pb 5 V evs->∀ (i:Nat)(h:i < evs.length) H,∃ c,Ua H 5 (.pv V) (i:Int)=some (.pv (.rp c 0))/\(∀ H',wa H' true 5 (.pv (.rp c 0))=some (.pv evs[i])):=fun {V} hV i h H=>by obtain⟨a,b,c,d,f,hx⟩:=he _ (ic h);refine⟨[aa a,aa b,aa c,aa d,aa f],?_,fun H'=>by rw[hx];rfl⟩;rw[hV.lit (i:=i) h];simp only[Ua];rw[if_pos ⟨trivial,by unfold Ta;omega⟩,Uc,Rb h,hx];rfl
 have yc:=fun (E:Tr)(h0:E.get 0= .pv V)(h1:E.get 1= .pv W)(h5:E.get 5= .pv (aa 0))=>
  Aw (call:=La (fun _=>none) 8) (b:=gL) (live:=[0,1,5]) (E0:=E) (H0:=[]) (Q:=fun r=>∃ E,r=(.exit 0,⟨E,[]⟩))
   (fun i:Nat=>[(0,.pv V),(1,.pv W),(5,.pv (aa i))]) (fun _=>[]) (fun i x=>x=i) evs.length (by unfold Ga;omega) (fun _=>rfl)
   (fun i x _=>⟨by simp[fm],Gw rfl,rfl⟩) ⟨0,⟨h0,h1,h5,trivial⟩,rfl,rfl⟩
   (by
    rintro _ i E hi rfl ⟨g0,g1,g5,_⟩;obtain⟨c1,a1,b1⟩:=pg hV i hi [];obtain⟨c2,a2,b2⟩:=pg hW i hi [];have hs:=kae (he _ (ic hi));generalize evs[i]=e at *;have e1:decide ((i:Int) < (evs.length:Int))=true:=Qa (by omega);have t1:IntKind.i64.wrap ((i:Int)+1)=((i+1:Nat):Int):=sm (by omega)
    generalize hQ:RH _ _ _ _=Q;simp -implicitDefEqProofs only[SX,sevalprocAttr,gL,g0,g1,g5,lV,e1,a1,a2,b1,b2,hs,t1];subst hQ;exact⟨i+1,[],by simp[Has,Tr.na,g0,g1],rfl,rfl⟩)
   (by rintro i E rfl ⟨g0,g1,g5,_⟩;have e1:decide ((evs.length:Int) < (evs.length:Int))=false:=Ra (by omega);generalize hQ:(fun r:Ex×St=>r.1.stop=true/\_)=Q;simp -implicitDefEqProofs only[SX,sevalprocAttr,gL,g0,g5,lV,e1];subst hQ;exact⟨rfl,_,rfl⟩)
 have x1:((evs.length:Int) != (evs.length:Int))=false:=by simp
 apply Hl;generalize hQ:(fun x=>x=PV.bool true)=Q;simp -implicitDefEqProofs only[Mt,SX,sevalprocAttr,fQ,lV,lW,x1];refine Bb (yc _ (by simp[Tr.na]) (by simp[Tr.na]) (by simp[Tr.na])) ?_;rintro r ⟨_,E,rfl⟩;simp -implicitDefEqProofs only[SX,sevalprocAttr];subst hQ;rfl
theorem kas(H:List fa){id sz:Nat}{nl:Bool}{es:List PV}(h:nl=true->es=[]):∃ V,qb H 6 (.uq id nl sz es)=some V/\Pb sz V es:=by
 cases nl with
 |true=>rw[h rfl];exact⟨.oa,rfl,.inl ⟨rfl,rfl⟩⟩
 |false=>exact⟨.lit sz es,rfl,.inr rfl⟩
theorem H9{H:List fa}{id n sz bytes:Nat}{nl nl' ag:Bool}{es ys:List PV}{V:PV}(hV:Pb sz V ys)(hg:H[id]? =some (.tok sz n nl'))(hn:n=es.length)(hr:Ac (es.length+ys.length) bytes):
 Ud H false .uq sz ag bytes (.uq id nl sz es) (.pv V)=some (.uq id (nl&&ys.isEmpty) sz (es++ys),H.set id (.tok sz (es.length+ys.length) (nl&&ys.isEmpty))):=by
 rcases hV with⟨rfl,rfl⟩ | rfl
 ·subst hn
  simp only[Ud,Sc,if_false,hg,Bg,if_true,Lc];rw[if_pos ⟨trivial,trivial,trivial,by simpa using hr⟩]
 ·exact vV hg hn hr
theorem cas:∃ R,ZJ []=some (.rp R 0)/\wk (.rp R 0) Zm ND/\uc Zm/\Ee Zm/\∀ e∈ND,Kl e:=by
 obtain⟨ga,T,h1,hT,he⟩:=Qac (dae (by decide) (by decide) (by decide)) Jad Iad Had mR;have wc:Ee Zm:=fun i j hi hj=>(show ∀ i:Fin 3,∀ j:Fin 3,Zm[i].ba.length < Zm[j].ba.length->fg Zm[i] Zm[j]=false by decide) ⟨i,hi⟩ ⟨j,hj⟩;have hai:(.lit 2 (Zm.map dg):PV)= .lit 2 [.agg [.lit 1 [.lit 2 [.agg [aa 0,aa 127]]],aa 0],.agg [.lit 1 [.lit 2 [.agg [aa 194,aa 223]],.lit 2 [.agg [aa 128,aa 191]]],aa 128],.agg [.lit 1 [.lit 2 [.agg [aa 225,aa 225]],.lit 2 [.agg [aa 128,aa 191]],.lit 2 [.agg [aa 128,aa 191]]],aa 4096]]:=rfl
 rw[hai] at h1;obtain⟨R,hR⟩:=(jP.of hT ga).ptr
 subst hR;refine⟨R,?_,hT,ga,wc,he⟩;simp -implicitDefEqProofs only[ZJ,SX,sevalprocAttr,NP,h1,za.eq_1,za.eq_2,List.set,bd]
def Oq:List Int:=[0,0,0,0,0,0,0,0]
theorem AW:oh Oq 0 []:=⟨rfl,by decide,by decide,fun i hi=>by simp at hi,fun x hx=>by cases hx⟩
theorem oac{call:Ab}(H:List fa):Gc call fA [.pv (aa 8)] H=some (.Ba [.ptr H.length 0,.pv (aa 0)],H++[Dc Oq 8 0 0]):=by
 have e1:decide ((8:Int) < 1)=false:=rfl;have e2:decide ((8:Int) > 8)=false:=rfl;have hb:Dc Oq 8 0 0= .box [.pv (.int .u8 0),.pv (.int .u8 0),.pv (.int .u8 0),.pv (.int .u8 0),.pv (.int .u8 0),.pv (.int .u8 0),.pv (.int .u8 0),.pv (.int .u8 0),.pv (.int .i64 8),.pv (.int .i64 0),.pv (.int .i64 0)]:=rfl
 rw[hb];have hm:∀ n,xt [.ptr n 0,.pv (.int .i64 0)]= .Ba [.ptr n 0,.pv (aa 0)]:=fun _=>rfl
 simp -implicitDefEqProofs only[SX,sevalprocAttr,fA,e1,e2,za.eq_1,za.eq_2,List.set,bd,hm]
section
variable {call call':Ab}{R:List PV}{bad:Int}(H:List fa)
theorem vad(h80:∀ H,call 80 [.pv (aa 8)] H=Gc call' fA [.pv (aa 8)] H)(hb:bad=1\/bad=3):
 Gc call mA [.pv (.rp R 0),.pv (aa bad)] H=some (.Ba [.ptr (H.length+1) 0,.pv (aa 0)],H++[Dc Oq 8 0 0]++[Wb (.rp R 0) bad H.length 0 0 0 false false]):=by
 have hc:=oac (call:=call') H;rw[<- h80] at hc;have e1:∀ H,Zd H 1 (.pv (.rp R 0)) (.pv .Ic)=some false:=fun H=>rfl;have hl:(H++[Dc Oq 8 0 0]).length=H.length+1:=by simp
 have hm:∀ n,xt [.ptr n 0,.pv (.int .i64 0)]= .Ba [.ptr n 0,.pv (aa 0)]:=fun _=>rfl
 have hd:Wb (.rp R 0) bad H.length 0 0 0 false false= .box [.pv (.rp R 0),.pv (.int .i64 bad),.ptr H.length 0,.pv (.int .i64 0),.pv (.int .i64 0),.pv (.int .i64 0),.pv (.bool false),.pv (.bool false)]:=rfl
 rw[hd];rcases hb with rfl | rfl
 ·have e3:((1:Int) != 1)=false:=rfl
  simp -implicitDefEqProofs only[SX,sevalprocAttr,mA,e1,e3,hc,hl,hm,za.eq_1,za.eq_2,List.set,bd]
 ·have e3:((3:Int) != 1)=true:=rfl
  have e4:((3:Int) != 3)=false:=rfl;simp -implicitDefEqProofs only[SX,sevalprocAttr,mA,e1,e3,e4,hc,hl,hm,za.eq_1,za.eq_2,List.set,bd]
end
section
variable {call call':Ab}{A:List fa}{d c:Nat}(hA:Pd A)(h2:uv A d c){T:PV}{bad:Int}{s:Tn}
include hA h2
theorem tad(h89:∀ H (k:Int),call 89 [.ptr d 0,.pv (aa k)] H=Gc call' Cs [.ptr d 0,.pv (aa k)] H){call'':Ab}
 (h82:∀ H (n:Int),call' 82 [.ptr c 0,.pv (aa n)] H=Gc call'' Bs [.ptr c 0,.pv (aa n)] H) (h83:∀ H,call' 83 [.ptr c 0] H=Gc call'' As [.ptr c 0] H)
 (hd:A[d]? =some (Wb T bad c s.st s.at_ s.Ea s.ab false)) (hc:A[c]? =some (Dc s.buf 8 s.h s.q.length)) (hq:oh s.buf s.h s.q) (pg:s.at_<=1000000):
 ∃ Y st' h',Still Y/\oh s.buf h' []/\(st'=0\/s.q=[]/\st'=s.st)/\Gc call Wt [.ptr d 0] A=some (.pv (.Ba [if s.q=[] then .oa else .lit 5 [Jd ⟨3,s.q.length,0⟩ s.at_],aa 0]),Hc A d c (Wb T bad c st' ((s.at_+s.q.length:Nat):Int) s.Ea s.ab true) (Dc s.buf 8 (h':Nat) 0) Y):=by
 have tp:=PL hd hc;have pd:=JA hd;have ld:=IA hd;have hf:=pX (T:=T) (bad:=bad) (C:= .rp (ie s.buf 8 s.h s.q.length) 0) (st:=s.st) (at_:=s.at_) (Ea:=s.Ea) (ab:=s.ab) (fin:=false);rw[qa (by simp)] at hf;have hm:∀ a b:PV,xt [.pv a,.pv b]= .pv (.Ba [a,b]):=fun _ _=>rfl
 have fl:∀ n:Int,Eh (aa n)=true:=fun n=>rfl;have Kg:(A.set d (Wb T bad c s.st s.at_ s.Ea s.ab true))[c]? =some (Dc s.buf 8 s.h s.q.length):=by rw[ze h2.ne];exact hc
 have s7:Db A 1 (.ptr d 7) (.pv (.bool true))=some (Hc A d c (Wb T bad c s.st s.at_ s.Ea s.ab true) (Dc s.buf 8 s.h s.q.length) []):=by
  rw[kad hd]
  congr 1
  unfold Hc;rw[yi];obtain⟨Uf,QS⟩:=Ad.1 Kg
  rw[<- QS];exact (List.set_getElem_self _).symm
 have Sw:=PL (Fy h2 (o1:=Wb T bad c s.st s.at_ s.Ea s.ab true) (o2:=Dc s.buf 8 s.h s.q.length) (X:=[])) (HE h2);have hh:=tX (T:=T) (bad:=bad) (st:=s.st) (at_:=s.at_) (Ea:=s.Ea) (ab:=s.ab) (fin:=true) (r:=8) hq;generalize mi T bad (.rp (ie s.buf 8 s.h s.q.length) 0) s.st s.at_ s.Ea s.ab false=row at *
 generalize mi T bad (.rp (ie s.buf 8 s.h s.q.length) 0) s.st s.at_ s.Ea s.ab true=qO at *
 obtain⟨f,aw⟩:∃ f:Int,f=if s.ab then 182 else 0:=⟨_,rfl⟩
 rw[<- aw] at hf;have lr:(f != 0)=true->(f != 182)=false:=fun h=>by
  cases hs:s.ab with
  |true=>rw[hs,if_pos rfl] at aw;rw[aw];rfl
  |false=>rw[hs,qa (by simp)] at aw;rw[aw] at h;cases h
 by_cases Yp:s.q=[]
 ·have hz:(((s.q.length:Nat):Int)==0)=true:=by rw[Yp];rfl
  refine⟨[],s.st,s.h,Still.nil,?_,.inr ⟨Yp,rfl⟩,?_⟩
  ·rw[Yp] at hq;exact hq
  ·rw[if_pos Yp]
   have SZ:s.q.length=0:=by rw[Yp];rfl
   obtain⟨H1,UA⟩:∃ H1,H1=Hc A d c (Wb T bad c s.st s.at_ s.Ea s.ab true) (Dc s.buf 8 s.h s.q.length) []:=⟨_,rfl⟩;rw[<- UA] at s7 Sw;have nai:Hc A d c (Wb T bad c s.st ((s.at_+s.q.length:Nat):Int) s.Ea s.ab true) (Dc s.buf 8 s.h 0) []=H1:=by rw[UA,SZ];rfl
   rw[nai];cases Yk:(f != 0) with
   |true=>have KS:=lr Yk;simp -implicitDefEqProofs only[SP,WP,sevalprocAttr,Wt,tp,pd,ld,hf,fl,Yk,KS,s7,Sw,hh,hz,hm]
   |false=>simp -implicitDefEqProofs only[SP,WP,sevalprocAttr,Wt,tp,pd,ld,hf,fl,Yk,s7,Sw,hh,hz,hm]
 ·have hz:(((s.q.length:Nat):Int)==0)=false:=beq_false_of_ne (by have:=Vn.2 Yp;omega)
  obtain⟨Y,y1,y2⟩:=G8 (call:=call') (call':=call'') hA h2 Still.nil (T:=T) (bad:=bad) (st:=s.st) (Ea:=s.Ea) (at_:=s.at_) (ab:=s.ab) (fin:=true) hq h82 h83 pg (k:=3) (u:=0) (fun h=>absurd h (by decide)) (fun _=>rfl)
  have IE:=(sH (call:=call) hq (H:=[.box ((ie s.buf 8 s.h s.q.length).map .pv)]) (c:=0) rfl (gb _)).1
  rw[Zh] at IE;rw[<- h89,Kf] at y2;have bo:∀ (e:qf)(a:Int)(H:List fa),((if (List.map AV.pv (Jd e a).cells).length=5/\(List.map AV.pv (Jd e a).cells).all AV.one=true then some (za [AV.pv (PV.int IntKind.i64 0),AV.pv (PV.int IntKind.i64 0),AV.pv (PV.int IntKind.i64 0),AV.pv (PV.int IntKind.i64 0),AV.pv (PV.int IntKind.i64 0)] 0 (List.map AV.pv (Jd e a).cells)) else none).bind fun cs=>
   if cs.all AV.one=true then Option.map (fun ps=>(AV.pv (PV.lit 5 [PV.agg (List.take 5 ps)]),H)) (bd cs) else none)=some (.pv (.lit 5 [Jd e a]),H):=fun e a H=>rfl
  refine⟨Y,0,_,y1,IE,.inl rfl,?_⟩;rw[qa Yp];cases Yk:(f != 0) with
  |true=>have KS:=lr Yk;simp -implicitDefEqProofs only[SP,WP,sevalprocAttr,Wt,tp,pd,ld,hf,fl,Yk,KS,s7,Sw,hh,hz,y2,bo,hm]
  |false=>simp -implicitDefEqProofs only[SP,WP,sevalprocAttr,Wt,tp,pd,ld,hf,fl,Yk,s7,Sw,hh,hz,y2,bo,hm]
end
structure QJ(t:Nat->Option Xa):Prop where
 n80:t 80=some fA
 n81:t 81=some Av
 B4:t 82=some Bs
 C4:t 83=some As
 n86:t 86=some mA
 n87:t 87=some iD
 D4:t 89=some Cs
 n90:t 90=some jA
structure Il(l:List (List Oa))(A:List fa)(d c:Nat)(T:PV)(bad:Int)(s:Tn):Prop where
 zk:Pd A
 two:uv A d c
 hd:A[d]? =some (Wb T bad c s.st s.at_ s.Ea s.ab s.fin)
 hc:A[c]? =some (Dc s.buf 8 s.h s.q.length)
 q:oh s.buf s.h s.q
 st:stays l 0 s.q=some s.st
structure Fq(A A':List fa)(d c:Nat):Prop where
 le:A.length<=A'.length
 get:∀ k,k < A.length->k≠d->k≠c->A'[k]? =A[k]?
theorem Fq.trans{A B C:List fa}{d c:Nat}(h:Fq A B d c)(k:Fq B C d c):Fq A C d c:=⟨Lj h.le k.le,fun i hi h1 h2=>(k.get i (Xn hi h.le) h1 h2).trans (h.get i hi h1 h2)⟩
theorem Fq.Hc{A:List fa}{d c:Nat}{o1 o2:fa}{X:List fa}:Fq A (Hc A d c o1 o2 X) d c:=⟨by rw[Wp];omega,fun k hk h1 h2=>uaj hk h1 h2⟩
theorem Fq.app{A:List fa}{d c:Nat}(X:List fa):Fq A (A++X) d c:=⟨by simp,fun k hk _ _=>Kc hk⟩
theorem Il.app{l:List (List Oa)}{A:List fa}{d c:Nat}{T:PV}{bad:Int}{s:Tn}(h:Il l A d c T bad s){X:List fa}(hX:Still X):Il l (A++X) d c T bad s:=
 ⟨hX.zk h.zk,⟨by have:=h.two.ld;simp;omega,by have:=h.two.lc;simp;omega,h.two.ne⟩,by rw[Kc h.two.ld];exact h.hd,by rw[Kc h.two.lc];exact h.hc,h.q,h.st⟩
section
variable {t:Nat->Option Xa}(D:QJ t){n:Nat}{T:PV}{ss:List ya}{l:List (List Oa)}(hT:wk T ss l)(ga:uc ss)(ho:∀ e∈l,Kl e)(wc:Ee ss)(ha:bf ss=some l)
variable {A:List fa}{d c:Nat}{bad:Int}{s:Tn}
include D
theorem wX{R:List PV}(hG:Pd A)(hb:bad=1\/bad=3):∃ A',La t (n+2) 86 [.pv (.rp R 0),.pv (aa bad)] A=some (.Ba [.ptr (A.length+1) 0,.pv (aa 0)],A')/\Il l A' (A.length+1) A.length (.rp R 0) bad ⟨Oq,0,[],0,0,0,false,false⟩/\(∀ k,k < A.length->A'[k]? =A[k]?)/\A'.length=A.length+2:=by
 refine⟨_,(Dm _ _ _ _ _ D.n86).trans (vad A (fun H=>Dm _ _ _ _ _ D.n80) hb),⟨?_,⟨by simp,by simp,by omega⟩,by simp,?_,AW,rfl⟩,fun k hk=> ?_,by simp⟩
 ·intro m hm o ho
  simp at hm;rcases Bd.1 ho with h | h
  ·rcases Bd.1 h with h | h
   ·exact hG m (by omega) o h
   ·simp at h;subst h;exact QB (NN m _)
  ·simp at h;subst h
   exact QB (by simp[Wb,Qx,Er,fm,tw,show A.length < m by omega])
 ·rw[Kc (by simp),Tg (by omega)];simp
 ·rw[Kc (by simp;omega),Kc hk]
theorem qX(LY:t 88=some Wt)(hI:Il l A d c T bad s)(hf:s.fin=false)(pg:s.at_<=1000000):∃ A' s',La t (n+3) 88 [.ptr d 0] A=some (.pv (.Ba [if s.q=[] then .oa else .lit 5 [Jd ⟨3,s.q.length,0⟩ s.at_],aa 0]),A')/\Il l A' d c T bad s'/\Fq A A' d c/\s'.q=[]/\s'.at_=s.at_+s.q.length/\s'.Ea=s.Ea/\s'.ab=s.ab/\s'.fin=true:=by
 obtain⟨Y,st',h',hY,hq,zc,hr⟩:=tad (call:=La t (n+2)) (call':=La t (n+1)) (call'':=La t n) hI.zk hI.two (T:=T) (bad:=bad) (s:=s) (fun H k=>Dm _ _ _ _ _ D.D4) (fun H m=>Dm _ _ _ _ _ D.B4) (fun H=>Dm _ _ _ _ _ D.C4) (by have:=hI.hd;rw[hf] at this;exact this) hI.hc hI.q pg
 have gw:st'=0:=by
  rcases zc with h | ⟨h,h'⟩
  ·exact h
  ·have:=hI.st
   rw[h] at this;injection this with this
   rw[h',<-this]
 refine⟨_,⟨s.buf,h',[],st',s.at_+s.q.length,s.Ea,s.ab,true⟩,(Dm _ _ _ _ _ LY).trans hr,⟨vI hI.zk hI.two hY,⟨?_,?_,hI.two.ne⟩,Fy hI.two,HE hI.two,hq,by rw[gw];rfl⟩,Fq.Hc,rfl,rfl,rfl,rfl,rfl⟩
 ·have:=hI.two.ld;rw[Wp];omega
 ·have:=hI.two.lc;rw[Wp];omega
include hT ga ho wc ha
theorem iR(hI:Il l A d c T bad s)(hf:s.fin=false)(hs:s.ab=false){U:AV}{bs:List Int}(hU:Lt U bs A.length)(ht0:0<=s.Ea)(ht1:s.Ea+bs.length<=65536)(pg:s.at_<=65536):
 ∃ A' s' nl out,La t (n+5) 87 [.ptr d 0,U] A=some (.Ba [.uq A.length nl 5 (Xb s.at_ out),.pv (aa 0)],A')/\Il l A' d c T bad s'/\Fq A A' d c/\A.length < A'.length/\Ci ss l (bad==3) s.q bs=(out,s'.q,s'.ab)/\s'.at_=s.at_+vg out/\s'.Ea=s.Ea+bs.length/\s'.fin=false/\(nl=true->out=[]):=by
 have hd:=hI.hd
 rw[hf,hs] at hd;obtain⟨r,hr,nl,Y,buf,q,h,st,out,sp,rfl,hY,hq,zc,Tj,Wc,ZA⟩:=wg (sad hT ga ho wc ha (call:=La t (n+4)) (call':=La t (n+3)) (call'':=La t (n+2)) (call3:=La t (n+1)) hI.zk hI.two (bad:=bad) (fun H x=>Dm _ _ _ _ _ D.n90) (fun H k=>Dm _ _ _ _ _ D.D4) (fun H x=>Dm _ _ _ _ _ D.n81) (fun H m=>Dm _ _ _ _ _ D.B4) (fun H=>Dm _ _ _ _ _ D.C4) (s:=s) hd hI.hc hI.q hI.st hU ht0 ht1 pg);refine⟨_,⟨buf,h,q,st,s.at_+vg out,s.Ea+bs.length,sp,false⟩,nl,out,(Dm _ _ _ _ _ D.n87).trans hr,⟨vI hI.zk hI.two hY,⟨?_,?_,hI.two.ne⟩,Fy hI.two,HE hI.two,hq,zc⟩,Fq.Hc,?_,Tj,rfl,rfl,rfl,Wc⟩
 ·have:=hI.two.ld;rw[Wp];omega
 ·have:=hI.two.lc;rw[Wp];omega
 ·rw[Wp];omega
end
section
variable {l:List (List Oa)}{A:List fa}{d c:Nat}{T:PV}{bad:Int}{s:Tn}(h:Il l A d c T bad s)
include h
theorem gR:∃ row,qb A 6 (.ptr d 0)=some (.rp row 0)/\Rr [.rp row 0]=some (aa s.q.length)/\oP [.rp row 0]=some (aa s.Ea)/\EC [.rp row 0]=some (aa 8)/\nP [.rp row 0]=some (.bool s.ab):=
 ⟨_,PL h.hd h.hc,tX h.q,Nad,Lad h.q,Mad⟩
theorem Il.nn:Zd A 1 (.ptr d 0) (.pv .Ic)=some false:=fad h.hd
end
theorem Fad:Ci Zm ND (1==3) [] [65,225,128]=([⟨1,1,65⟩],[225,128],false):=by kernel_rfl
theorem Gad:Ci Zm ND (1==3) [225,128] [66,195]=([⟨2,2,0⟩,⟨1,1,66⟩],[195],false):=by kernel_rfl
theorem Pd.nil:Pd []:=fun _ _ _ h=>by cases h
theorem R7{A:List fa}{n:Nat}{k:Nat}(hn:A.length=n):(A++[fa.tok 1 k false])[n]? =some (fa.tok 1 k false)/\(A++[fa.tok 1 k false]).set n fa.dead=A++[fa.dead]:=by
 subst hn;exact⟨by simp,by simp⟩
theorem rad:QJ xJ:=⟨rfl,rfl,rfl,rfl,rfl,rfl,rfl,rfl⟩
theorem Gae:YJ []=some (.bool true):=by
 obtain⟨R,htw,hT,ga,wc,he⟩:=cas;have h1:=Fad;have h2:=Gad;have D:=rad;obtain⟨A0,n1,i1,_,l1⟩:=wX (n:=6) D (l:=ND) (R:=R) (bad:=1) Pd.nil (.inl rfl)
 rw[Ch,De] at n1 i1 l1;obtain⟨A1,Uv⟩:∃ A1,A1=A0++[.dead]:=⟨_,rfl⟩;have L0:=i1.app Still.dead
 rw[<- Uv] at L0;have Ly:=R7 (k:=3) l1;rw[<- Uv] at Ly;have Fi:A1.length=3:=by rw[Uv];simp[l1]
 obtain⟨A2,s2,nl2,o2,n2,i2,_,_,f2,a2,t2,fn2,yo⟩:=iR (n:=3) D hT ga he wc mR L0 rfl rfl (Lt.of (B:= .lit 1 [u8 65,u8 225,u8 128]) (bs:=[65,225,128]) ⟨.inr rfl,by decide⟩ _) (by decide) (by decide) (by decide);replace f2:=h1.symm.trans f2
 have q1:[⟨1,1,65⟩]=o2:=congrArg (fun x=>x.1) f2;have q2:[225,128]=s2.q:=congrArg (fun x=>x.2.1) f2
 have q3:false=s2.ab:=congrArg (fun x=>x.2.2) f2
 subst q1;have yo:nl2=false:=by cases nl2 with | false=>rfl | true=>cases yo rfl
 subst yo;rw[Fi] at n2;obtain⟨qO,Sw,kZ,_⟩:=gR i2;rw[<- q2] at kZ;obtain⟨m2,eN⟩:∃ m,A2.length=m:=⟨_,rfl⟩
 obtain⟨A3,dS⟩:∃ A3,A3=A2++[.dead]:=⟨_,rfl⟩;have M0:=i2.app Still.dead
 rw[<- dS] at M0;have yr:=R7 (k:=2) eN;rw[<- dS] at yr;have OV:s2.at_=1:=by rw[a2];rfl
 have F9:s2.Ea=3:=by rw[t2];rfl
 obtain⟨A4,s4,I4,o4,n4,i4,_,_,f4,a4,t4,fn4,iT⟩:=iR (n:=3) D hT ga he wc mR M0 fn2 q3.symm (Lt.of (B:= .lit 1 [u8 66,u8 195]) (bs:=[66,195]) ⟨.inr rfl,by decide⟩ _) (by rw[F9];decide) (by rw[F9];decide) (by rw[OV];decide)
 rw[<- q2] at f4;replace f4:=h2.symm.trans f4
 have q1:[⟨2,2,0⟩,⟨1,1,66⟩]=o4:=congrArg (fun x=>x.1) f4;have q4:[195]=s4.q:=congrArg (fun x=>x.2.1) f4
 subst q1;have iT:I4=false:=by cases I4 with | false=>rfl | true=>cases iT rfl
 subst iT;rw[OV] at n4 a4;have QV:s4.at_=4:=by rw[a4];rfl
 obtain⟨A5,s5,n5,_⟩:=qX (n:=5) D rfl i4 fn4 (by rw[QV];decide);rw[<- q4,QV,qa (by simp)] at n5;have e1:=i1.nn
 have sm1:Mt [.lit 5 (Xb 0 [⟨1,1,65⟩]),.lit 5 [.agg [.int .i64 1,.int .i64 0,.int .i64 1,.int .i64 65,.int .i64 0]]]=some (.bool true):=by kernel_rfl
 have sm2:Mt [.lit 5 (Xb 1 [⟨2,2,0⟩,⟨1,1,66⟩]),.lit 5 [.agg [.int .i64 2,.int .i64 1,.int .i64 2,.int .i64 0,.int .i64 0],.agg [.int .i64 1,.int .i64 3,.int .i64 1,.int .i64 66,.int .i64 0]]]=some (.bool true):=by kernel_rfl
 have sm3:Mt [.lit 5 [Jd ⟨3,([195]:List Int).length,0⟩ ((4:Nat):Int)],.lit 5 [.agg [.int .i64 3,.int .i64 4,.int .i64 1,.int .i64 0,.int .i64 0]]]=some (.bool true):=by kernel_rfl
 have tu:∀ H n es,qb H 6 (.uq n false 5 es)=some (.lit 5 es):=fun H n es=>rfl;obtain⟨call,br⟩:∃ x,x=La xJ 8:=⟨_,rfl⟩;rw[<- br] at n1 n2 n4 n5;rw[YJ,oc,<-br];generalize Xb 0 [⟨1,1,65⟩]=W1 at *;generalize hW2:Xb 1 [⟨2,2,0⟩,⟨1,1,66⟩]=W2 at *;generalize Jd ⟨3,([195]:List Int).length,0⟩ ((4:Nat):Int)=W3 at *;have z0:((0:Int)==0)=true:=rfl;have z1:((0:Int) != 0)=false:=rfl;have z2:((([225,128]:List Int).length:Int)==2)=true:=rfl;have fl:∀ n:Int,Eh (aa n)=true:=fun n=>rfl;have n2':call 87 [.ptr 1 0,.pv (.lit 1 [.int .u8 65,.int .u8 225,.int .u8 128])] A1=some (.Ba [.uq 3 false 5 W1,.pv (aa 0)],A2):=n2;have n4':call 87 [.ptr 1 0,.pv (.lit 1 [.int .u8 66,.int .u8 195])] A3=some (.Ba [.uq A3.length false 5 W2,.pv (aa 0)],A4):=n4;clear br Uv dS h1 h2 n2 n4;simp -implicitDefEqProofs only[SP,WP,sevalprocAttr,MP,htw,n1,e1,z1,l1,Ly,n2',Sw,kZ,fl,eN,yr,n4',n5,tu,sm1,sm2,sm3,z0,z2,za.eq_1,za.eq_2,List.set,bd]
section
variable (ss:List ya)(l:List (List Oa))
theorem aY:∀ (a b h:List Int),Ci ss l false h (a++b)=((Ci ss l false h a).1++(Ci ss l false (Ci ss l false h a).2.1 b).1,(Ci ss l false (Ci ss l false h a).2.1 b).2)
 | [],b,h=>rfl
 |x::a,b,h=>by rw[Sg,Ci,Ci,Ko,qa (by simp),qa (by simp),aY a b];simp only[Ij]
theorem FR:∀ (k:Nat)(es:List qf),es≠[]->∃ (e:qf)(p:Nat),(Xb k es)[es.length - 1]? =some (Jd e p)/\p+e.size=k+vg es
 |k,[],h=>absurd rfl h
 |k,[e],_=>⟨e,k,rfl,by simp[vg]⟩
 |k,e::f::r,_=>by
  obtain⟨e',p,h1,h2⟩:=FR (k+e.size) (f::r) (by simp);refine⟨e',p,?_,?_⟩
  ·rw[Xb]
   simpa using h1
  ·rw[h2];simp[vg];omega
end
theorem Qaq{L:List fa}{a b c:fa}(h0:L[0]? =some a)(h1:L[1]? =some b)(h2:L[2]? =some c):L=[a,b,c]++L.drop 3:=by
 match L,h0,h1,h2 with
 |x::y::z::r,h0,h1,h2=>simp at h0 h1 h2;subst h0 h1 h2;rfl
theorem jW(a b:Int):Tk true [.pv (aa a),.pv (.int .i64 b)]=some (aa (max a b)):=by
 show some (PV.int .i64 (if b > a then b else a))=some (aa (max a b));rw[show (if b > a then b else a)=max a b from by split <;> omega]
theorem kW(a b:Int):Tk false [.pv (.int .i64 a),.pv (aa b)]=some (aa (min a b)):=by
 show some (PV.int .i64 (if b < a then b else a))=some (aa (min a b));rw[show (if b < a then b else a)=min a b from by split <;> omega]
theorem lai{B:PV}{bs:List Int}(hB:Oh B bs){a n:Nat}(h:a+n<=bs.length):∃ B',(∀ H,nh H 1 (.pv B) (some (a:Int)) (some ((a+n:Nat):Int))=some (.pv B'))/\Oh B' ((bs.drop a).take n):=by
 rcases hB.is with⟨rfl,hb⟩ | rfl
 ·have Im:bs=[]:=by simpa using hb
  subst Im;simp at h;have ha:a=0:=by omega
  have hn:n=0:=by omega
  subst ha hn;exact⟨.oa,fun H=>rfl,.inl ⟨rfl,rfl⟩,by simp⟩
 ·refine⟨.lit 1 (((bs.drop a).take n).map u8),fun H=> ?_,.inr rfl,fun b hb=>hB.jg b (No (Ot hb))⟩
  simp only[nh,ov];rw[if_pos ⟨by decide,trivial,by omega,by omega,by rw[wb];omega⟩,Uc,Uc];rw[<- List.map_take,<-List.map_drop,List.drop_take,Uz]
theorem oX{l:List (List Oa)}{T:PV}{s:Tn}(hq:oh s.buf s.h s.q)(hs:stays l 0 s.q=some s.st)(bad:Int)(n:Nat)(nl:Bool):Il l [Dc s.buf 8 s.h s.q.length,Wb T bad 0 s.st s.at_ s.Ea s.ab s.fin,.tok 5 n nl] 1 0 T bad s:=by
 refine⟨fun m hm o ho=> ?_,⟨by simp,by simp,by decide⟩,rfl,rfl,hq,hs⟩;have hm:3<=m:=hm;simp only[Ae,Vm,or_false] at ho;rcases ho with rfl | rfl | rfl
 ·exact QB (NN m _)
 ·exact QB (by simp[Wb,Qx,Er,fm,tw,show 0 < m by omega])
 ·rfl
theorem Il.set{l:List (List Oa)}{A:List fa}{d c:Nat}{T:PV}{bad:Int}{s:Tn}(h:Il l A d c T bad s){k:Nat}(h1:k≠d)(h2:k≠c){o:fa}(ho:Still [o]):Il l (A.set k o) d c T bad s:=by
 refine⟨fun m hm x hx=> ?_,⟨by rw[Um];exact h.two.ld,by rw[Um];exact h.two.lc,h.two.ne⟩,by rw[ze h1];exact h.hd,by rw[ze h2];exact h.hc,h.q,h.st⟩;rw[Um] at hm;rcases Oo hx with hx | rfl
 ·exact h.zk m hm x hx
 ·exact Gw (ho m) _ (by simp)
section
variable {t:Nat->Option Xa}(D:QJ t){T:PV}{ss:List ya}{l:List (List Oa)}(hT:wk T ss l)(ga:uc ss)(ho:∀ e∈l,Kl e)(wc:Ee ss)(ha:bf ss=some l)
include D hT ga ho wc ha
structure LC(ss:List ya)(l:List (List Oa))(bs:List Int)(N k:Nat)(T:PV)(s:Tn)(at_:Nat)(all:List qf)(nl:Bool):Prop where
 is:Il l [Dc s.buf 8 s.h s.q.length,Wb T 1 0 s.st s.at_ s.Ea s.ab s.fin,.tok 5 all.length nl] 1 0 T 1 s
 fd:Ci ss l false [] (bs.take at_)=(all,s.q,false)
 st:s.ab=false
 fin:s.fin=false
 Ea:s.Ea=at_
 nG:s.at_=vg all
 le:at_<=bs.length
 eae:N < k->at_=bs.length
 nil:nl=true->all=[]
theorem zae{B:PV}{bs:List Int}(hB:Oh B bs)(Vl:bs.length<=65536){C:PV}{cs:List Int}(hC:Pb 1 C (cs.map aa))(Kg:cs.length * 8<=140737488355328){n:Nat}{s0:Tn}(h0:LC ss l bs cs.length 0 T s0 0 [] true)
 {E0:Tr} (g1:E0.get 1= .pv B) (g2:E0.get 2= .pv C) (g9:E0.get 9= .ptr 1 0) (g11:E0.get 11= .uq 2 true 5 []) (g12:E0.get 12= .pv (aa 0)) (g13:E0.get 13= .pv (aa 0)):
 Ia (fun r=>r.1.stop=true/\∃ (E:Tr)(s:Tn)(all:List qf)(nl:Bool),r=(.exit 0,⟨E,[Dc s.buf 8 s.h s.q.length,Wb T 1 0 s.st s.at_ s.Ea s.ab s.fin,.tok 5 all.length nl]⟩)/\E.get 9= .ptr 1 0/\E.get 11= .uq 2 nl 5 (Xb 0 all)/\LC ss l bs cs.length (cs.length+1) T s bs.length all nl)
  (ua (La t (n+5)) (.loop [1,2,9,11,12,13] pA) ⟨E0,[Dc s0.buf 8 s0.h s0.q.length,Wb T 1 0 s0.st s0.at_ s0.Ea s0.ab s0.fin,.tok 5 0 true]⟩):=by
 have lB:=hB.mb
 have lC:=fun H=>hC.len H
 simp only[wb] at lC;refine Aw (σ:=Nat×Tn×Nat×List qf×Bool) (fun x=>[(1,.pv B),(2,.pv C),(9,.ptr 1 0),(11,.uq 2 x.2.2.2.2 5 (Xb 0 x.2.2.2.1)),(12,.pv (aa x.2.2.1)),(13,.pv (aa x.1))])
  (fun x=>[Dc x.2.1.buf 8 x.2.1.h x.2.1.q.length,Wb T 1 0 x.2.1.st x.2.1.at_ x.2.1.Ea x.2.1.ab x.2.1.fin,.tok 5 x.2.2.2.1.length x.2.2.2.2])
  (fun k x=>x.1=k/\LC ss l bs cs.length k T x.2.1 x.2.2.1 x.2.2.2.1 x.2.2.2.2) (cs.length+1) (by unfold Ga;omega) (fun _=>rfl) ?_ ?_ ?_ ?_
 ·rintro k x ⟨_,hp⟩
  exact⟨by simp[fm,tw,WE],fun o Xs=>hp.is.zk _ (by simp) o Xs,rfl⟩
 ·exact⟨(0,s0,0,[],true),⟨g1,g2,g9,g11,g12,g13,trivial⟩,rfl,rfl,h0⟩
 ·rintro _ ⟨k,s,at_,all,nl⟩ E hi ⟨rfl,hp⟩ ⟨g1,g2,g9,g11,g12,g13,_⟩
  simp only at hi hp g1 g2 g9 g11 g12 g13;obtain⟨m,hm⟩:∃ m:Nat,m=if h:k < cs.length then min (cs[k]).toNat (bs.length - at_) else bs.length - at_:=⟨_,rfl⟩
  have hle:=hp.le
  have tr:at_+m<=bs.length:=by rw[hm];split <;> omega
  obtain⟨B',hsl,eS⟩:=lai hB tr;obtain⟨pc,Du⟩:∃ pc,pc=(bs.drop at_).take m:=⟨_,rfl⟩
  rw[<- Du] at eS;have xc:pc.length=m:=by rw[Du,ij,uk];omega
  obtain⟨H0,Xk⟩:∃ H0,H0=[Dc s.buf 8 s.h s.q.length,Wb T 1 0 s.st s.at_ s.Ea s.ab s.fin,.tok 5 all.length nl]:=⟨_,rfl⟩;have kS:=hp.is
  rw[<- Xk] at kS;have Mg:H0.length=3:=by rw[Xk];rfl
  have mu:=kS.app (Still.tok 1 m false)
  have XC:Ud (H0++[.tok 1 0 false]) false .uq 1 false 1 (.uq 3 false 1 []) (.pv B')=some (.uq 3 false 1 (pc.map u8),H0++[.tok 1 m false]):=by rw[H9 eS.is (n:=0) (nl':=false) (by rw[Tg (by omega),Mg];rfl) rfl (by unfold Ac;simp;omega)];rw[Po _ _ (by omega),Mg,Kf,wb,xc];simp
  obtain⟨A',s',nl',out,br,Ns,hk,hlt,Tj,pg,aak,Oe,Wc⟩:=iR (n:=n) D hT ga ho wc ha mu hp.fin hp.st (Lt.uq (bs:=pc) eS.jg (id:=3) false (by simp[Mg])) (by rw[hp.Ea];omega) (by rw[hp.Ea,xc];omega) (by
   rw[hp.nG];have:=(eE ss l _ (bs.take at_) (gb _)).2.1
   have hf:=(qM ss l (bs.take at_) [] 0 rfl).1
   rw[hp.fd,Kf] at hf;have h1:all=(we ss l (bs.take at_)).1:=congrArg (fun x=>x.1) hf
   rw[<- h1,ij] at this;show (all.map (·.size)).sum<=_
   omega)
  have gZ:Ci ss l false s.q pc=(out,s'.q,s'.ab):=Tj
  have od:bs.take at_++pc=bs.take (at_+m):=by rw[Du,List.take_add]
  have pB:=aY ss l (bs.take at_) pc [];rw[hp.fd] at pB;dsimp only at pB;rw[gZ,od] at pB;dsimp only at pB;have Zv:=(qM ss l (bs.take (at_+m)) [] 0 rfl).1
  rw[Kf,pB] at Zv;have c1:all++out=(we ss l (bs.take (at_+m))).1:=congrArg (fun x=>x.1) Zv
  have c2:s'.q=(we ss l (bs.take (at_+m))).2:=congrArg (fun x=>x.2.1) Zv
  have c3:s'.ab=false:=congrArg (fun x=>x.2.2) Zv
  obtain⟨_,k2,_,_,k5⟩:=eE ss l _ (bs.take (at_+m)) (gb _);rw[<- c1,<-c2,ij,Nat.min_eq_left tr] at k2 k5;have k2:vg (all++out)+s'.q.length=at_+m:=k2
  have hq8:=UM ga wc ha Ns.q.jg Ns.st
  rw[Pc] at k5;have zE:(H0++[fa.tok 1 m false]).length=4:=by simp[Mg]
  rw[zE] at br;have aS:A'[2]? =some (.tok 5 all.length nl):=by rw[hk.get 2 (by rw[zE];decide) (by decide) (by decide),Kc (by rw[Mg];decide),Xk];rfl
  have Da:Xb 0 all++Xb s.at_ out=Xb 0 (all++out):=by rw[jM,hp.nG,De];rfl
  obtain⟨nl2,sI⟩:∃ b,b=(nl&&(Xb s.at_ out).isEmpty):=⟨_,rfl⟩;obtain⟨H2,Ri⟩:∃ H2,H2=A'.set 2 (.tok 5 (all++out).length nl2):=⟨_,rfl⟩
  have YC:Ud A' false .uq 5 true 40 (.uq 2 nl 5 (Xb 0 all)) (.uq 4 nl' 5 (Xb s.at_ out))=some (.uq 2 nl2 5 (Xb 0 (all++out)),H2):=by simp only[Ud,Sc,if_false,aS,Bg,if_true,Lc];rw[if_pos ⟨trivial,trivial,(zj 0 all).symm,by unfold Ac;rw[zj,zj];omega⟩,Da,Ri,sI,zj,zj,Pc]
  have Kp:Il l H2 1 0 T 1 s':=by rw[Ri];exact Ns.set (by decide) (by decide) (Still.tok _ _ _)
  obtain⟨row,tp,gh,gt,gr,gs⟩:=gR Kp;have Rag:H2=[Dc s'.buf 8 s'.h s'.q.length,Wb T 1 0 s'.st s'.at_ s'.Ea s'.ab s'.fin,.tok 5 (all++out).length nl2]++H2.drop 3:=Qaq Kp.hc Kp.hd (by rw[Ri];exact Of (by rw[zE] at hlt;omega))
  have Th:LC ss l bs cs.length (k+1) T s' (at_+m) (all++out) nl2:=by
   refine⟨oX Ns.q Ns.st 1 _ _,by rw[pB,c3],c3,Oe,by rw[aak,hp.Ea,xc];omega,by rw[pg,hp.nG,qV],tr,fun h=> ?_,fun h=> ?_⟩
   ·rw[hm,dif_neg (by omega)];omega
   ·rw[sI,fb] at h
    have h3:out=[]:=Ze (by rw[<- zj s.at_ out,List.isEmpty_iff.1 h.2];rfl);rw[hp.nil h.1,h3];rfl
  have cY:∀ E2:Tr,E2.get 1= .pv B->E2.get 2= .pv C->E2.get 9= .ptr 1 0->E2.get 11= .uq 2 nl2 5 (Xb 0 (all++out))->E2.get 12= .pv (aa (at_+m:Nat))->E2.get 13= .pv (aa (k+1:Nat))->
   ∃ (x:Nat×Tn×Nat×List qf×Bool)(T':List fa),Has E2 [(1,.pv B),(2,.pv C),(9,.ptr 1 0),(11,.uq 2 x.2.2.2.2 5 (Xb 0 x.2.2.2.1)),(12,.pv (aa x.2.2.1)),(13,.pv (aa x.1))]/\H2=[Dc x.2.1.buf 8 x.2.1.h x.2.1.q.length,Wb T 1 0 x.2.1.st x.2.1.at_ x.2.1.Ea x.2.1.ab x.2.1.fin,.tok 5 x.2.2.2.1.length x.2.2.2.2]++T'/\(x.1=k+1/\LC ss l bs cs.length (k+1) T x.2.1 x.2.2.1 x.2.2.2.1 x.2.2.2.2):=fun E2 q1 q2 q9 H6 fC jm=>
   ⟨(k+1,s',at_+m,all++out,nl2),H2.drop 3,⟨q1,q2,q9,H6,fC,jm,trivial⟩,Rag,rfl,Th⟩
  have e1:decide ((k:Int)<=(cs.length:Int))=true:=Qa (by omega);have HJ:IntKind.i64.wrap ((bs.length:Int) - (at_:Int))=((bs.length - at_:Nat):Int):=(Gb (by omega)).trans (by omega)
  have ZO:IntKind.i64.wrap ((at_:Int)+(m:Int))=((at_+m:Nat):Int):=(Gb (by omega)).trans (by omega)
  have t1:IntKind.i64.wrap ((k:Int)+1)=((k+1:Nat):Int):=sm (by omega)
  have lu:∀ H,mb H 0 (.uq 2 nl2 5 (Xb 0 (all++out)))=some (all++out).length:=fun H=>by rw[AN,zj]
  have wq:IntKind.i64.wrap (((at_+m:Nat):Int) - ((vg (all++out):Nat):Int))=(s'.q.length:Int):=(Gb (by omega)).trans (by omega)
  have x1:((s'.q.length:Int) != (s'.q.length:Int))=false:=by simp
  have x2:decide ((s'.q.length:Int)>=8)=false:=Ra (by omega);have x3:decide ((8:Int) > 64)=false:=rfl;have x4:decide ((8:Int) < (s'.q.length:Int))=false:=Ra (by omega);have z1:((0:Int) != 0)=false:=rfl;have fl:∀ n:Int,Eh (aa n)=true:=fun n=>rfl;rw[<- Xk];clear Xk Ri mu kS Ns Kp Tj gZ pB Zv;generalize La t (n+5)=call at *;generalize hQ:RH _ _ _ _=Q;have sM:∀ E2:Tr,E2.get 1= .pv B->E2.get 2= .pv C->E2.get 9= .ptr 1 0->E2.get 11= .uq 2 nl2 5 (Xb 0 (all++out))->E2.get 12= .pv (aa (at_+m:Nat))->E2.get 13= .pv (aa (k+1:Nat))->Q (.norm,⟨E2,H2⟩):=by subst hQ;exact cY
  clear hQ cY
  by_cases wo:k < cs.length
  ·have e2:decide ((k:Int) < (cs.length:Int))=true:=Qa (by omega)
   have a1:∀ H,Ua H 1 (.pv C) (k:Int)=some (.pv (.rp [aa cs[k]] 0)):=fun H=>by rw[hC.lit (i:=k) (by rw[wb];exact wo)];simp only[Ua];rw[if_pos ⟨trivial,by unfold Ta;rw[wb];omega⟩,Uc,Gd,Rb wo];rfl
   rw[dif_pos wo] at hm;have yZ:min (max cs[k] 0) ((bs.length - at_:Nat):Int)=(m:Int):=by rw[hm];omega
   generalize cs[k]=ck at *
   by_cases Va:(all++out)=[]
   ·have e3:decide (((all++out).length:Int) > 0)=false:=Ra (by rw[Va];decide)
    have yV:IntKind.i64.wrap (((at_+m:Nat):Int) - 0)=(s'.q.length:Int):=by rw[Va] at wq;exact wq
    simp -implicitDefEqProofs only[SP,WP,sevalprocAttr,pA,g1,g2,g9,g11,g12,g13,lB,lC,e1,e2,HJ,Mg,ZO,hsl,XC,br,YC,lu,z1,tp,gh,gr,fl,x1,x2,x3,x4,t1,e3,yV,a1,Xd,jW,kW,yZ];exact sM _ (by simp[Tr.na,g1]) (by simp[Tr.na,g2]) (by simp[Tr.na,g9]) (by simp[Tr.na]) (by simp[Tr.na]) (by simp[Tr.na])
   ·have e3:decide (((all++out).length:Int) > 0)=true:=Qa (by have:=Vn.2 Va;omega)
    obtain⟨e,p,p1,p2⟩:=FR 0 (all++out) Va;have wl:IntKind.i64.wrap (((all++out).length:Int) - 1)=(((all++out).length - 1:Nat):Int):=(Gb (by rw[Pc];omega)).trans (by have:=Vn.2 Va;omega)
    have ia:∀ H,Ua H 5 (.uq 2 nl2 5 (Xb 0 (all++out))) (((all++out).length - 1:Nat):Int)=some (.pv (.rp (Dd e.kind p e.size e.u) 0)):=fun H=>by simp only[Ua];rw[if_pos ⟨trivial,by unfold Ta;rw[zj];have:=Vn.2 Va;omega⟩,Uc,p1];rfl
    have i1:∀ H,place H 1 (.pv (.rp (Dd e.kind p e.size e.u) 0))=some (.pv (.rp (Dd e.kind p e.size e.u) 1)):=fun H=>rfl;have i2:∀ H,place H 2 (.pv (.rp (Dd e.kind p e.size e.u) 0))=some (.pv (.rp (Dd e.kind p e.size e.u) 2)):=fun H=>rfl;have j1:∀ H,wa H false 1 (.pv (.rp (Dd e.kind p e.size e.u) 1))=some (.pv (aa p)):=fun H=>rfl;have j2:∀ H,wa H false 1 (.pv (.rp (Dd e.kind p e.size e.u) 2))=some (.pv (aa e.size)):=fun H=>rfl;have pw:IntKind.i64.wrap ((p:Int)+(e.size:Int))=((vg (all++out):Nat):Int):=(Gb (by omega)).trans (by omega)
    generalize Xb 0 (all++out)=W at *;generalize Dd e.kind p e.size e.u=Ro at *
    simp -implicitDefEqProofs only[SP,WP,sevalprocAttr,pA,g1,g2,g9,g11,g12,g13,lB,lC,e1,e2,HJ,Mg,ZO,hsl,XC,br,YC,lu,z1,tp,gh,gr,fl,x1,x2,x3,x4,t1,e3,wl,ia,i1,i2,j1,j2,pw,wq,a1,Xd,jW,kW,yZ];exact sM _ (by simp[Tr.na,g1]) (by simp[Tr.na,g2]) (by simp[Tr.na,g9]) (by simp[Tr.na]) (by simp[Tr.na]) (by simp[Tr.na])
  ·have e2:decide ((k:Int) < (cs.length:Int))=false:=Ra (by omega)
   rw[dif_neg wo] at hm;rw[<- hm] at HJ
   by_cases Va:(all++out)=[]
   ·have e3:decide (((all++out).length:Int) > 0)=false:=Ra (by rw[Va];decide)
    have yV:IntKind.i64.wrap (((at_+m:Nat):Int) - 0)=(s'.q.length:Int):=by rw[Va] at wq;exact wq
    simp -implicitDefEqProofs only[SP,WP,sevalprocAttr,pA,g1,g2,g9,g11,g12,g13,lB,lC,e1,e2,HJ,Mg,ZO,hsl,XC,br,YC,lu,z1,tp,gh,gr,fl,x1,x2,x3,x4,t1,e3,yV];exact sM _ (by simp[Tr.na,g1]) (by simp[Tr.na,g2]) (by simp[Tr.na,g9]) (by simp[Tr.na]) (by simp[Tr.na]) (by simp[Tr.na])
   ·have e3:decide (((all++out).length:Int) > 0)=true:=Qa (by have:=Vn.2 Va;omega)
    obtain⟨e,p,p1,p2⟩:=FR 0 (all++out) Va;have wl:IntKind.i64.wrap (((all++out).length:Int) - 1)=(((all++out).length - 1:Nat):Int):=(Gb (by rw[Pc];omega)).trans (by have:=Vn.2 Va;omega)
    have ia:∀ H,Ua H 5 (.uq 2 nl2 5 (Xb 0 (all++out))) (((all++out).length - 1:Nat):Int)=some (.pv (.rp (Dd e.kind p e.size e.u) 0)):=fun H=>by simp only[Ua];rw[if_pos ⟨trivial,by unfold Ta;rw[zj];have:=Vn.2 Va;omega⟩,Uc,p1];rfl
    have i1:∀ H,place H 1 (.pv (.rp (Dd e.kind p e.size e.u) 0))=some (.pv (.rp (Dd e.kind p e.size e.u) 1)):=fun H=>rfl;have i2:∀ H,place H 2 (.pv (.rp (Dd e.kind p e.size e.u) 0))=some (.pv (.rp (Dd e.kind p e.size e.u) 2)):=fun H=>rfl;have j1:∀ H,wa H false 1 (.pv (.rp (Dd e.kind p e.size e.u) 1))=some (.pv (aa p)):=fun H=>rfl;have j2:∀ H,wa H false 1 (.pv (.rp (Dd e.kind p e.size e.u) 2))=some (.pv (aa e.size)):=fun H=>rfl;have pw:IntKind.i64.wrap ((p:Int)+(e.size:Int))=((vg (all++out):Nat):Int):=(Gb (by omega)).trans (by omega)
    generalize Xb 0 (all++out)=W at *;generalize Dd e.kind p e.size e.u=Ro at *
    simp -implicitDefEqProofs only[SP,WP,sevalprocAttr,pA,g1,g2,g9,g11,g12,g13,lB,lC,e1,e2,HJ,Mg,ZO,hsl,XC,br,YC,lu,z1,tp,gh,gr,fl,x1,x2,x3,x4,t1,e3,wl,ia,i1,i2,j1,j2,pw,wq];exact sM _ (by simp[Tr.na,g1]) (by simp[Tr.na,g2]) (by simp[Tr.na,g9]) (by simp[Tr.na]) (by simp[Tr.na]) (by simp[Tr.na])
 ·rintro⟨k,s,at_,all,nl⟩ E ⟨hk,hp⟩ ⟨g1,g2,g9,g11,g12,g13,_⟩
  simp only at hk hp g1 g2 g9 g11 g12 g13 ⊢;subst hk;have pg:=hp.eae (SC _)
  rw[pg] at hp;have e1:decide (((cs.length+1:Nat):Int)<=(cs.length:Int))=false:=Ra (by omega);generalize hQ:(fun r:Ex×St=>r.1.stop=true/\_)=Q;simp -implicitDefEqProofs only[SX,sevalprocAttr,pA,g2,g13,lC,e1];subst hQ;exact⟨rfl,_,s,all,nl,rfl,by simp[Tr.na,g9],by simp[Tr.na,g11],hp⟩
end
def Tq(x:Int):Int->List (Int×Int)->Int
 |_,[]=> -1
 |n,p::r=>if p.1<=x/\x<=p.2 then n+x - p.1 else Tq x (n+(p.2 - p.1+1)) r
theorem rX{top x:Int}:∀ {l:List (Int×Int)}{last n:Int},Ub top last l=true->x<=last->Tq x n l= -1
 | [],_,_,_,_=>rfl
 |p::r,last,n,h,hx=>by obtain⟨h1,h2,h3,h4,h5⟩:=ik h;rw[Tq,qa (by omega)];exact rX h5 (by omega)
theorem sX{top x:Int}:∀ {l:List (Int×Int)}{last n:Int},Ub top last l=true->Tq x n l=if (Ld x n l).2=true then (Ld x n l).1 else -1
 | [],_,_,_=>rfl
 |p::r,last,n,h=>by
  obtain⟨h1,h2,h3,h4,h5⟩:=ik h;rw[Tq,Ld]
  by_cases c:x < p.1
  ·rw[if_pos c,qa (by omega),rX h5 (by omega)];rfl
  ·rw[qa c]
   by_cases c2:x<=p.2
   ·rw[if_pos c2,if_pos ⟨by omega,c2⟩];rfl
   ·rw[qa c2,qa (by omega)]
    exact sX h5
theorem u6{v:PV}{l:List (Int×Int)}(hv:Pb 2 v (Pa l)){i:Nat}(hi:i < l.length):(∀ H,Ua H 2 (.pv v) (i:Int)=some (.pv (.rp [aa l[i].1,aa l[i].2] 0))):=fun H=>by
 rw[hv.lit (i:=i) (by simpa using hi)];simp only[Ua];rw[if_pos ⟨trivial,by unfold Ta;simp;omega⟩,Uc,Hw hi];rfl
theorem Bad{v:PV}{l:List (Int×Int)}(hv:Pb 2 v (Pa l))(hw:l.length<=maxLen)(oe:Ub 255 (-2) l=true){x:Int}(QE:0<=x)(hx1:x<=255):fK [v,aa x]=some (aa (Tq x 0 l)):=by
 have lv:=hv.len
 simp only[Pa,wb] at lv;have yc:=fun (E:Tr)(g0:E.get 0= .pv v)(g1:E.get 1= .pv (aa x))(g5:E.get 5= .pv (aa 0))(g6:E.get 6= .pv (aa 0))=>
  Aw (call:=La (fun _=>none) 8) (b:=sD) (live:=[0,1,5,6]) (E0:=E) (H0:=[]) (Q:=fun r=>(∃ E,r=(.exit 0,⟨E,[]⟩)/\Tq x 0 l= -1)\/∃ E,r=(.ret,⟨E,[]⟩)/\E.get 4= .pv (aa (Tq x 0 l)))
   (fun y:Nat×Int=>[(0,.pv v),(1,.pv (aa x)),(5,.pv (aa y.2)),(6,.pv (aa y.1))]) (fun _=>[]) (fun i y=>y.1=i/\Tq x 0 l=Tq x y.2 (l.drop i)/\∃ last,Ub 255 last (l.drop i)=true/\0<=y.2/\y.2<=max 0 (last+1)/\last<=255) l.length (by unfold Ga;unfold maxLen at hw;omega) (fun _=>rfl)
   (fun i y _=>⟨by simp[fm],Gw rfl,rfl⟩) ⟨(0,0),⟨g0,g1,g5,g6,trivial⟩,rfl,rfl,rfl,-2,oe,by dsimp only;omega,by dsimp only;omega,by omega⟩
   (by
    rintro _ ⟨i,n⟩ E hi ⟨rfl,hr,last,nj,xo,xB,Ay⟩ ⟨g0,g1,g5,g6,_⟩;dsimp only at *;have hd:l.drop i=l[i]::l.drop (i+1):=Hh hi
    rw[hd] at hr nj;obtain⟨h1,h2,h3,h4,h5⟩:=ik nj;rw[Tq] at hr;have a1:=u6 hv hi;generalize l[i]=p at *;have dJ:∀ H,place H 0 (.pv (.rp [aa p.1,aa p.2] 0))=some (.pv (.rp [aa p.1,aa p.2] 0)):=fun H=>rfl;have Ht:∀ H,place H 1 (.pv (.rp [aa p.1,aa p.2] 0))=some (.pv (.rp [aa p.1,aa p.2] 1)):=fun H=>rfl;have yw:∀ H,wa H false 1 (.pv (.rp [aa p.1,aa p.2] 0))=some (.pv (aa p.1)):=fun H=>rfl;have ld1:∀ H,wa H false 1 (.pv (.rp [aa p.1,aa p.2] 1))=some (.pv (aa p.2)):=fun H=>rfl;have e1:decide ((i:Int) < (l.length:Int))=true:=Qa (by omega);have t1:IntKind.i64.wrap ((i:Int)+1)=((i+1:Nat):Int):=sm (by unfold maxLen at hw;omega)
    by_cases c:p.1<=x
    ·have d1:decide (x>=p.1)=true:=Qa c
     by_cases c2:x<=p.2
     ·have d2:decide (x<=p.2)=true:=Qa c2
      have t2:IntKind.i64.wrap (n+x)=n+x:=Gb (by omega)
      have t3:IntKind.i64.wrap (n+x - p.1)=n+x - p.1:=Gb (by omega)
      rw[if_pos ⟨c,c2⟩] at hr;generalize hQ:RH _ _ _ _=Q;simp -implicitDefEqProofs only[SX,sevalprocAttr,sD,g0,g1,g5,g6,lv,e1,a1,dJ,Ht,yw,ld1,d1,d2,t2,t3];subst hQ;exact .inr ⟨_,rfl,by simp[Tr.na,hr]⟩
     ·have d2:decide (x<=p.2)=false:=Ra c2
      have t3:IntKind.i64.wrap (p.2 - p.1)=p.2 - p.1:=Gb (by omega)
      have t4:IntKind.i64.wrap (p.2 - p.1+1)=p.2 - p.1+1:=Gb (by omega)
      have t5:IntKind.i64.wrap (n+(p.2 - p.1+1))=n+(p.2 - p.1+1):=Gb (by omega)
      rw[qa (fun h=>c2 h.2)] at hr;generalize hQ:RH _ _ _ _=Q;simp -implicitDefEqProofs only[SX,sevalprocAttr,sD,g0,g1,g5,g6,lv,e1,a1,dJ,Ht,yw,ld1,d1,d2,t1,t3,t4,t5];subst hQ;exact⟨(i+1,n+(p.2 - p.1+1)),[],by simp[Has,Tr.na,g0,g1],rfl,rfl,hr,p.2,h5,by dsimp only;omega,by dsimp only;omega,by omega⟩
    ·have d1:decide (x>=p.1)=false:=Ra c
     have t3:IntKind.i64.wrap (p.2 - p.1)=p.2 - p.1:=Gb (by omega)
     have t4:IntKind.i64.wrap (p.2 - p.1+1)=p.2 - p.1+1:=Gb (by omega)
     have t5:IntKind.i64.wrap (n+(p.2 - p.1+1))=n+(p.2 - p.1+1):=Gb (by omega)
     rw[qa (fun h=>c h.1)] at hr;generalize hQ:RH _ _ _ _=Q;simp -implicitDefEqProofs only[SX,sevalprocAttr,sD,g0,g1,g5,g6,lv,e1,a1,dJ,Ht,yw,ld1,d1,t1,t3,t4,t5];subst hQ;exact⟨(i+1,n+(p.2 - p.1+1)),[],by simp[Has,Tr.na,g0,g1],rfl,rfl,hr,p.2,h5,by dsimp only;omega,by dsimp only;omega,by omega⟩)
   (by rintro⟨i,n⟩ E ⟨h,hr,_⟩ ⟨g0,g1,g5,g6,_⟩;dsimp only at h hr g5 g6;subst h;rw[Zh] at hr;have e1:decide ((l.length:Int) < (l.length:Int))=false:=Ra (by omega);generalize hQ:(fun r:Ex×St=>r.1.stop=true/\_)=Q;simp -implicitDefEqProofs only[SX,sevalprocAttr,sD,g0,g6,lv,e1];subst hQ;exact⟨rfl,.inl ⟨_,rfl,hr⟩⟩)
 apply Hl;generalize hQ:(fun y=>y=PV.int IntKind.i64 (Tq x 0 l))=Q;simp -implicitDefEqProofs only[fK,SX,sevalprocAttr,gQ];refine Bb (yc _ (by simp[Tr.na]) (by simp[Tr.na]) (by simp[Tr.na]) (by simp[Tr.na])) ?_;rintro r ⟨_,h⟩;rcases h with⟨E,rfl,h⟩ | ⟨E,rfl,h⟩
 ·rw[h] at hQ
  simp -implicitDefEqProofs only[SX,sevalprocAttr];subst hQ;rfl
 ·simp -implicitDefEqProofs only[SX,sevalprocAttr,h]
  subst hQ;rfl
theorem Baq{v:PV}{l:List (Int×Int)}(hv:Pb 2 v (Pa l))(hw:l.length<=maxLen)(oe:Ub 255 (-2) l=true):gK [v]=some (aa (Tb 0 l)):=by
 have lv:=hv.len
 simp only[Pa,wb] at lv;have yc:=fun (E:Tr)(g0:E.get 0= .pv v)(g3:E.get 3= .pv (aa 0))(g4:E.get 4= .pv (aa 0))=>
  Aw (call:=La (fun _=>none) 8) (b:=iL) (live:=[0,3,4]) (E0:=E) (H0:=[]) (Q:=fun r=>∃ E,r=(.exit 0,⟨E,[]⟩)/\E.get 3= .pv (aa (Tb 0 l)))
   (fun y:Nat×Int=>[(0,.pv v),(3,.pv (aa y.2)),(4,.pv (aa y.1))]) (fun _=>[]) (fun i y=>y.1=i/\Tb 0 l=Tb y.2 (l.drop i)/\∃ last,Ub 255 last (l.drop i)=true/\0<=y.2/\y.2<=max 0 (last+1)/\last<=255) l.length (by unfold Ga;unfold maxLen at hw;omega) (fun _=>rfl)
   (fun i y _=>⟨by simp[fm],Gw rfl,rfl⟩) ⟨(0,0),⟨g0,g3,g4,trivial⟩,rfl,rfl,rfl,-2,oe,by dsimp only;omega,by dsimp only;omega,by omega⟩
   (by
    rintro _ ⟨i,n⟩ E hi ⟨rfl,hr,last,nj,xo,xB,Ay⟩ ⟨g0,g3,g4,_⟩;dsimp only at *;have hd:l.drop i=l[i]::l.drop (i+1):=Hh hi
    rw[hd] at hr nj;obtain⟨h1,h2,h3,h4,h5⟩:=ik nj;rw[Tb] at hr;have a1:=u6 hv hi;generalize l[i]=p at *;have dJ:∀ H,place H 0 (.pv (.rp [aa p.1,aa p.2] 0))=some (.pv (.rp [aa p.1,aa p.2] 0)):=fun H=>rfl;have Ht:∀ H,place H 1 (.pv (.rp [aa p.1,aa p.2] 0))=some (.pv (.rp [aa p.1,aa p.2] 1)):=fun H=>rfl;have yw:∀ H,wa H false 1 (.pv (.rp [aa p.1,aa p.2] 0))=some (.pv (aa p.1)):=fun H=>rfl;have ld1:∀ H,wa H false 1 (.pv (.rp [aa p.1,aa p.2] 1))=some (.pv (aa p.2)):=fun H=>rfl;have e1:decide ((i:Int) < (l.length:Int))=true:=Qa (by omega);have t1:IntKind.i64.wrap ((i:Int)+1)=((i+1:Nat):Int):=sm (by unfold maxLen at hw;omega)
    have t3:IntKind.i64.wrap (p.2 - p.1)=p.2 - p.1:=Gb (by omega)
    have t4:IntKind.i64.wrap (p.2 - p.1+1)=p.2 - p.1+1:=Gb (by omega)
    have t5:IntKind.i64.wrap (n+(p.2 - p.1+1))=n+(p.2 - p.1+1):=Gb (by omega)
    generalize hQ:RH _ _ _ _=Q;simp -implicitDefEqProofs only[SX,sevalprocAttr,iL,g0,g3,g4,lv,e1,a1,dJ,Ht,yw,ld1,t1,t3,t4,t5];subst hQ;exact⟨(i+1,n+(p.2 - p.1+1)),[],by simp[Has,Tr.na,g0],rfl,rfl,hr,p.2,h5,by dsimp only;omega,by dsimp only;omega,by omega⟩)
   (by rintro⟨i,n⟩ E ⟨h,hr,_⟩ ⟨g0,g3,g4,_⟩;dsimp only at h hr g3 g4;subst h;rw[Zh] at hr;have e1:decide ((l.length:Int) < (l.length:Int))=false:=Ra (by omega);generalize hQ:(fun r:Ex×St=>r.1.stop=true/\_)=Q;simp -implicitDefEqProofs only[SX,sevalprocAttr,iL,g0,g4,lv,e1];subst hQ;exact⟨rfl,_,rfl,by simp[Tr.na,g3,hr,Tb]⟩)
 apply Hl;generalize hQ:(fun y=>y=PV.int IntKind.i64 (Tb 0 l))=Q;simp -implicitDefEqProofs only[gK,SX,sevalprocAttr,iQ];refine Bb (yc _ (by simp[Tr.na]) (by simp[Tr.na]) (by simp[Tr.na])) ?_;rintro r ⟨_,E,rfl,h⟩;simp -implicitDefEqProofs only[SX,sevalprocAttr,h];subst hQ;rfl
def Zx:fa:= .box [.pv (aa 0),.pv (aa 0),.pv (aa 0),.pv (aa 0),.pv (aa 0)]
abbrev Xp(P:PV)(f:Int):List fa:=[Zx,.box [.pv P,.pv (aa f)]]
abbrev MI(B C:PV)(a m i:Int)(y:Nat×Int):List (Nat×AV):=[(1,.pv B),(2,.pv (aa a)),(3,.pv C),(6,.ptr 0 0),(7,.pv (aa m)),(8,.pv (aa i)),(9,.ptr 1 0),(10,.pv (aa y.1)),(11,.pv (aa y.2))]
theorem pae{P C:PV}{ps:List PV}{s:ya}(hP:sk P s.ba ps)(ga:Yd s){B:PV}{bs:List Int}(hB:Oh B bs)(hw:bs.length<=maxLen){a:Nat}(ha:a<=bs.length){m i:Int}{E:Tr}(hE:Has E (MI B C a m i (0,0))):
 Ia (fun r=>r.1.stop=true/\∃ E',r=(.exit 2,⟨E',Xp P s.pa⟩)/\Has E' (MI B C a m i (Ue s.ba (bs.drop a) 0 0))) (ua (La (fun _=>none) 8) (.loop [1,2,3,6,7,8,9,10,11] yA) ⟨E,Xp P s.pa⟩):=by
 have lP:=hP.mb
 have lB:=hB.mb
 have h8:=ga.hi
 have Yl:=ga.prod.2
 have q0:place (Xp P s.pa) 0 (.ptr 1 0)=some (.ptr 1 0):=rfl;have r0:wa (Xp P s.pa) false 1 (.ptr 1 0)=some (.pv P):=rfl;have r1:∀ H (x:PV),wa H false 1 (.pv (.rp [x] 0))=some (.pv x):=fun H x=>rfl;refine Aw (call:=La (fun _=>none) 8) (b:=yA) (live:=[1,2,3,6,7,8,9,10,11]) (E0:=E) (H0:=Xp P s.pa) (Q:=fun r=>∃ E',r=(.exit 2,⟨E',Xp P s.pa⟩)/\Has E' (MI B C a m i (Ue s.ba (bs.drop a) 0 0)))
  (MI B C a m i) (fun _=>Xp P s.pa) (fun n y=>y.1=n/\a+n<=bs.length/\Ue s.ba (bs.drop a) 0 0=Ue (s.ba.drop n) (bs.drop (a+n)) n y.2/\0<=y.2/\(y.2+1) * eb (s.ba.drop n)<=eb s.ba) s.ba.length (by unfold Ga;omega) (fun _=>rfl)
  (fun n y _=>⟨by simp[fm,tw],Gw (by simp[Zx,Er,fm]),rfl⟩) ⟨(0,0),hE,rfl,rfl,by omega,rfl,Ll _,by simp⟩ ?_ ?_
 ·rintro _ ⟨n,k⟩ E hi ⟨rfl,han,hr,Bn,Cn⟩ ⟨g1,g2,g3,g6,g7,g8,g9,g10,g11,_⟩
  dsimp only at *;have e1:decide ((n:Int) < (s.ba.length:Int))=true:=Qa (by omega);have t0:IntKind.i64.wrap ((a:Int)+(n:Int))=((a+n:Nat):Int):=(Gb (by unfold maxLen at hw;omega)).trans (by omega)
  have hd:s.ba.drop n=s.ba[n]::s.ba.drop (n+1):=Hh hi
  by_cases hlen:a+n < bs.length
  ·have e2:decide (((a+n:Nat):Int) < (bs.length:Int))=true:=Qa (by omega)
   obtain⟨v,hv,Qf,_⟩:=hP.Nd hi []
   have a2:=hP.Sy hv
   have a3:=hB.Nd hlen
   have nf:=ga.ba s.ba[n] (ic hi)
   have dB:=hB.jg bs[a+n] (ic hlen)
   have dI:bs.drop (a+n)=bs[a+n]::bs.drop (a+n+1):=Hh hlen
   have dr:=Bad Qf.is (by have:=Qf.sz;unfold maxLen;omega) nf.2 dB.1 dB.2
   have ib:=Baq Qf.is (by have:=Qf.sz;unfold maxLen;omega) nf.2
   rw[sX nf.2] at dr;have Fu:=sF (x:=bs[a+n]) (n:=0) nf.2
   have hs:=Hr nf;rw[hd,eb] at Cn;rw[hd,dI,Ue] at hr;have th:=Ik (ls:=s.ba.drop (n+1)) fun x hx=>ga.ba x (No hx)
   generalize eb (s.ba.drop (n+1))=pd at *;generalize s.ba[n]=l at *
   generalize bs[a+n]=x at *;have t3:IntKind.i64.wrap x=x:=Gb (by omega)
   obtain⟨⟨d,is⟩,Dn⟩:∃ r,r=Ld x 0 l:=⟨_,rfl⟩;rw[<- Dn] at dr hr Fu;cases is with
   |false=>simp only[Sc,if_false] at hr dr;have e3:decide ((-1:Int) < 0)=true:=rfl;generalize hQ:RH _ _ _ _=Q;simp -implicitDefEqProofs only[SX,sevalprocAttr,yA,g1,g2,g9,g10,g11,q0,r0,r1,lP,lB,e1,t0,e2,a2,a3,t3,dr,e3];subst hQ;exact⟨_,rfl,by simp[Has,Tr.na,g1,g2,g3,g6,g7,g8,g9,g10,g11,hr]⟩
   |true=>
    simp only[if_true] at hr dr;have Vd:=Fu rfl;simp only at Vd;have hX:(k * Tb 0 l+d+1) * pd<=(k+1) * (pd * Tb 0 l):=by
     have h1:(k * Tb 0 l+d+1) * pd<=(k * Tb 0 l+Tb 0 l) * pd:=vK (by omega) (by omega);have h2:(k * Tb 0 l+Tb 0 l) * pd=(k+1) * (pd * Tb 0 l):=by rw[xx pd,<-Int.mul_assoc,Int.add_mul k 1,NC]
     omega
    have Qe:0<=k * Tb 0 l:=Int.mul_nonneg Bn (by omega)
    have hY:k * Tb 0 l+d+1<=(k * Tb 0 l+d+1) * pd:=by have:=MC (a:=1) (b:=pd) (c:=k * Tb 0 l+d+1) th (by omega);omega
    have e3:decide (d < 0)=false:=Ra (by omega);have t4:IntKind.i64.wrap (k * Tb 0 l)=k * Tb 0 l:=Gb (by omega)
    have t5:IntKind.i64.wrap (k * Tb 0 l+d)=k * Tb 0 l+d:=Gb (by omega)
    have t6:IntKind.i64.wrap ((n:Int)+1)=((n+1:Nat):Int):=sm (by omega)
    generalize hQ:RH _ _ _ _=Q;simp -implicitDefEqProofs only[SX,sevalprocAttr,yA,g1,g2,g9,g10,g11,q0,r0,r1,lP,lB,e1,t0,e2,a2,a3,t3,dr,e3,ib,t4,t5,t6];subst hQ;exact⟨(n+1,k * Tb 0 l+d),[],by simp[Has,Tr.na,g1,g2,g3,g6,g7,g8,g9],by simp,rfl,by omega,by rw[<- Nat.add_assoc];exact hr,by dsimp only;omega,by dsimp only;omega⟩
  ·have e2:decide (((a+n:Nat):Int) < (bs.length:Int))=false:=Ra (by omega)
   have Bf:Ue s.ba (bs.drop a) 0 0=(n,k):=by
    have yB:bs.drop (a+n)=[]:=Vr (by omega)
    rw[hr,hd,yB];rfl
   generalize hQ:RH _ _ _ _=Q;simp -implicitDefEqProofs only[SX,sevalprocAttr,yA,g1,g2,g9,g10,g11,q0,r0,r1,lP,lB,e1,t0,e2];subst hQ;exact⟨_,rfl,by simp[Has,Tr.na,g1,g2,g3,g6,g7,g8,g9,g10,g11,Bf]⟩
 ·rintro⟨n,k⟩ E ⟨h,han,hr,Bn,Cn⟩ ⟨g1,g2,g3,g6,g7,g8,g9,g10,g11,_⟩
  dsimp only at h hr Bn Cn g10 g11;subst h;have e1:decide ((s.ba.length:Int) < (s.ba.length:Int))=false:=Ra (by omega);have Bf:Ue s.ba (bs.drop a) 0 0=(s.ba.length,k):=by rw[hr,Zh];rfl
  generalize hQ:(fun r:Ex×St=>r.1.stop=true/\_)=Q;simp -implicitDefEqProofs only[SX,sevalprocAttr,yA,g1,g2,g9,g10,g11,q0,r0,r1,lP,e1];subst hQ;exact⟨rfl,_,rfl,by simp[Has,Tr.na,g1,g2,g3,g6,g7,g8,g9,g10,g11,Bf]⟩
def Ks(e:qf)(a:Int):fa:= .box [.pv (aa e.kind),.pv (aa a),.pv (aa e.size),.pv (aa e.u),.pv (aa 0)]
theorem rae(H:List fa)(e:qf)(a:Int):Db (H++[.box [.pv (aa 0),.pv (aa 0),.pv (aa 0),.pv (aa 0),.pv (aa 0)]]) 5 (.ptr H.length 0) (.pv (Jd e a))=some (H++[Ks e a]):=by
 have h1:(H++[fa.box [.pv (aa 0),.pv (aa 0),.pv (aa 0),.pv (aa 0),.pv (aa 0)]])[H.length]? =some (.box [.pv (aa 0),.pv (aa 0),.pv (aa 0),.pv (aa 0),.pv (aa 0)]):=by simp
 unfold Db;rw[if_pos ⟨rfl,rfl⟩];simp only[h1];rw[if_pos (by decide)]
 congr 1
 simp[Ks,za,Jd,AV.cells,PV.cells,List.map]
theorem JY:∀ (ls:List (List (Int×Int)))(bs:List Int)(n:Nat)(k:Int),(∀ l∈ls,Se l)->0<=k->0<=(Ue ls bs n k).2/\(Ue ls bs n k).2+1<=(k+1) * eb ls
 | [],bs,n,k,_,h0=>by simp[Ue,eb];exact h0
 |l::ls,[],n,k,h,h0=>by have hp:=Ik h;have:=MC (a:=1) (b:=eb (l::ls)) (c:=k+1) hp (by omega);simp only[Ue];exact⟨h0,by omega⟩
 |l::ls,x::b,n,k,h,h0=>by
  have hp:=Ik h;have xc:=Ik (ls:=ls) fun y hy=>h y (by simp[hy]);have h1:=MC (a:=1) (b:=eb (l::ls)) (c:=k+1) hp (by omega);have hl:=h l (by simp);have hs:=Hr hl;rw[Ue]
  by_cases hm:(Ld x 0 l).2=true
  ·rw[if_pos hm]
   have hr:=sF (x:=x) (n:=0) hl.2 hm
   generalize (Ld x 0 l).1=d at *
   have Qe:0<=k * Tb 0 l:=Int.mul_nonneg h0 (by omega)
   obtain⟨i1,i2⟩:=JY ls b (n+1) (k * Tb 0 l+d) (fun y hy=>h y (by simp[hy])) (by omega);refine⟨i1,Int.le_trans i2 ?_⟩;have h2:(k * Tb 0 l+d+1) * eb ls<=(k * Tb 0 l+Tb 0 l) * eb ls:=vK (by omega) (by omega);have h3:(k * Tb 0 l+Tb 0 l) * eb ls=(k+1) * eb (l::ls):=by rw[eb,xx (eb ls),<-Int.mul_assoc,Int.add_mul k 1,NC]
   omega
  ·rw[qa hm]
   exact⟨h0,by omega⟩
theorem mW(m n:Nat):Tk true [.pv (.int .i64 (m:Int)),.pv (.int .i64 (n:Int))]=some (aa ((max m n:Nat):Int)):=by
 have:((max m n:Nat):Int)=max (m:Int) (n:Int):=by omega
 rw[this];show some (PV.int .i64 (if (n:Int) > (m:Int) then (n:Int) else (m:Int)))=some (.int .i64 (max (m:Int) (n:Int)));rw[show (if (n:Int) > (m:Int) then (n:Int) else (m:Int))=max (m:Int) (n:Int) from by split <;> omega]
theorem Lao{S:PV}{ss:List ya}{es:List PV}(hS:zd S ss es)(ga:uc ss){B:PV}{bs:List Int}(hB:Oh B bs)(hw:bs.length<=4611686018427387904){a:Nat}(ha:a<=bs.length):
 eK [.agg [S],B,aa a]=some (Jd (aj ss (bs.drop a) 0) a):=by
 have Ve:(AV.pv S).one=true:=by rcases hS.is with⟨h,_⟩ | h <;> rw[h] <;> rfl
 have lS:=hS.mb
 have lB:=hB.mb
 have Wq:=ga.len
 have q3:∀ H,place H 0 (.pv (.rp [S] 0))=some (.pv (.rp [S] 0)):=fun H=>rfl;have r3:∀ H,wa H false 1 (.pv (.rp [S] 0))=some (.pv S):=fun H=>rfl;have yc:=fun (E:Tr)(g1:E.get 1= .pv B)(g2:E.get 2= .pv (aa a))(g3:E.get 3= .pv (.rp [S] 0))(g6:E.get 6= .ptr 0 0)(g7:E.get 7= .pv (aa 0))(g8:E.get 8= .pv (aa 0))=>
  Aw (call:=La (fun _=>none) 8) (b:=eL) (live:=[1,2,3,6,7,8]) (E0:=E) (H0:=[Zx])
   (Q:=fun r=>(∃ E H,r=(.ret,⟨E,H⟩)/\E.get 6= .ptr 0 0/\wa H true 5 (.ptr 0 0)=some (.pv (Jd (aj ss (bs.drop a) 0) a)))\/∃ E m,r=(.exit 0,⟨E,[Zx]⟩)/\E.get 1= .pv B/\E.get 2= .pv (aa a)/\E.get 6= .ptr 0 0/\E.get 7= .pv (aa (m:Nat))/\aj ss (bs.drop a) 0=aj [] (bs.drop a) m/\m<=8)
   (fun y:Nat×Nat=>[(1,.pv B),(2,.pv (aa a)),(3,.pv (.rp [S] 0)),(6,.ptr 0 0),(7,.pv (aa y.2)),(8,.pv (aa y.1))]) (fun _=>[Zx]) (fun i y=>y.1=i/\aj ss (bs.drop a) 0=aj (ss.drop i) (bs.drop a) y.2/\y.2<=8) ss.length (by unfold Ga;omega) (fun _=>rfl)
   (fun i y _=>⟨by simp[fm,tw],Gw (by simp[Zx,Er,fm]),rfl⟩) ⟨(0,0),⟨g1,g2,g3,g6,g7,g8,trivial⟩,rfl,rfl,rfl,by dsimp only;omega⟩
   (by
    rintro _ ⟨i,m⟩ E hi ⟨rfl,hr,fN⟩ ⟨g1,g2,g3,g6,g7,g8,_⟩;dsimp only at *;obtain⟨P,ps,gl,a2⟩:=hS.Nd hi
    have hd:ss.drop i=ss[i]::ss.drop (i+1):=Hh hi
    have En:=ga.He ss[i] (ic hi)
    rw[hd,aj] at hr;generalize ss[i]=s at *;have hP:=gl.ba
    obtain⟨Me,Ul⟩:=gl.zm
    have lP:=hP.mb
    have h8:=En.hi
    have Yl:=En.prod.2
    have Yk:=En.f0
    have hf1:=En.f1
    have hgb:=JY s.ba (bs.drop a) 0 0 En.ba (by omega)
    obtain⟨mm,m1,m2,m3,_⟩:=ZR s.ba (bs.drop a) 0 0
    have e1:decide ((i:Int) < (ss.length:Int))=true:=Qa (by omega);have t1:IntKind.i64.wrap ((i:Int)+1)=((i+1:Nat):Int):=sm (by omega)
    have l2:∀ H,wa H true 2 (.pv (.rp [P,aa s.pa] 0))=some (.pv (.agg [P,aa s.pa])):=fun H=>rfl;have s2:Db [Zx,.box [.pv .oa,.pv (aa 0)]] 2 (.ptr 1 0) (.pv (.agg [P,aa s.pa]))=some (Xp P s.pa):=by simp[Db,AV.cells,PV.cells,Ul,za,Me,show ∀ n:Int,(AV.pv (PV.int IntKind.i64 n)).one=true from fun _=>rfl]
    have q0:place (Xp P s.pa) 0 (.ptr 1 0)=some (.ptr 1 0):=rfl;have q1:place (Xp P s.pa) 1 (.ptr 1 0)=some (.ptr 1 1):=rfl;have r0:wa (Xp P s.pa) false 1 (.ptr 1 0)=some (.pv P):=rfl;have r1:wa (Xp P s.pa) false 1 (.ptr 1 1)=some (.pv (aa s.pa)):=rfl;have s5:∀ e:qf,Db (Xp P s.pa) 5 (.ptr 0 0) (.pv (.agg [aa e.kind,aa a,aa e.size,aa e.u,aa 0]))=some [Ks e a,.box [.pv P,.pv (aa s.pa)]]:=fun e=>rfl;have Tf:=fun (E':Tr)(hE':Has E' (MI B (.rp [S] 0) a m i (0,0)))=>pae (C:= .rp [S] 0) hP En hB (by unfold maxLen;omega) ha hE';generalize Ue s.ba (bs.drop a) 0 0=g at *
    obtain⟨n,k⟩:=g;dsimp only at *;have bm:=mW m n;have qS:∀ H:List fa,H++[fa.box [.pv .oa,.pv (.int .i64 0)]]=H++[fa.box [.pv .oa,.pv (aa 0)]]:=fun H=>rfl;generalize hQ:RH _ _ _ _=Q;simp -implicitDefEqProofs only[SX,sevalprocAttr,eL,g1,g2,g3,g6,g7,g8,q3,r3,lS,e1,a2,l2,s2];refine Bb (Tf _ (by simp[Has,Tr.na,g1,g2,g3,g6,g7,g8])) ?_;rintro r ⟨_,E',rfl,k1,k2,k3,k6,k7,k8,k9,Xg,Yg,_⟩;dsimp only at Xg Yg
    by_cases hn:n=s.ba.length
    ·have d1:((n:Int)==(s.ba.length:Int))=true:=by simp[hn]
     have t5:IntKind.i64.wrap (s.pa+k)=s.pa+k:=Gb (by omega)
     rw[if_pos hn] at hr;simp -implicitDefEqProofs only[SX,sevalprocAttr,k1,k2,k3,k6,k7,k8,k9,Xg,Yg,q0,q1,r0,r1,lP,d1,t5,za.eq_1,za.eq_2,List.set,bd];subst hQ;exact .inl ⟨_,_,rfl,by simp[Tr.na,k6],by rw[hr,<-hn];rfl⟩
    ·have d1:((n:Int)==(s.ba.length:Int))=false:=by simp;omega
     rw[qa hn] at hr;simp -implicitDefEqProofs only[SX,sevalprocAttr,k1,k2,k3,k6,k7,k8,k9,Xg,Yg,q0,q1,r0,r1,lP,d1,t1,bm];subst hQ;exact⟨(i+1,max m n),[.box [.pv P,.pv (aa s.pa)]],by simp[Has,Tr.na,k1,k2,k3,k6],rfl,rfl,hr,by dsimp only;omega⟩)
   (by rintro⟨i,m⟩ E ⟨h,hr,fN⟩ ⟨g1,g2,g3,g6,g7,g8,_⟩;dsimp only at h hr fN g7 g8;subst h;rw[Zh] at hr;have e1:decide ((ss.length:Int) < (ss.length:Int))=false:=Ra (by omega);generalize hQ:(fun r:Ex×St=>r.1.stop=true/\_)=Q;simp -implicitDefEqProofs only[SX,sevalprocAttr,eL,g1,g2,g3,g6,g7,g8,q3,r3,lS,e1];subst hQ;exact⟨rfl,.inr ⟨_,m,rfl,by simp[Tr.na,g1],by simp[Tr.na,g2],by simp[Tr.na,g6],by simp[Tr.na,g7],hr,fN⟩⟩)
 apply Hl;generalize hQ:(fun y=>y=Jd (aj ss (bs.drop a) 0) a)=Q;simp -implicitDefEqProofs only[eK,SX,sevalprocAttr,dQ,Ve,pj];refine Bb (yc _ (by simp[Tr.na]) (by simp[Tr.na]) (by simp[Tr.na]) (by simp[Tr.na]) (by simp[Tr.na]) (by simp[Tr.na])) ?_;rintro r ⟨_,h⟩;rcases h with⟨E,H,rfl,h6,hl⟩ | ⟨E,m,rfl,g1,g2,g6,g7,hr,fN⟩
 ·simp -implicitDefEqProofs only[SX,sevalprocAttr,h6,hl]
  subst hQ;rfl
 ·have vn:(bs.drop a).length=bs.length - a:=uk
  have t0:IntKind.i64.wrap ((a:Int)+(m:Int))=(a:Int)+m:=Gb (by omega)
  have bm:Tk true [.pv (aa (m:Int)),.pv (.int .i64 1)]=some (aa ((max m 1:Nat):Int)):=mW m 1;have s5:∀ e:qf,Db [Zx] 5 (.ptr 0 0) (.pv (.agg [aa e.kind,aa a,aa e.size,aa e.u,aa 0]))=some [Ks e a]:=fun e=>rfl
  by_cases h0:0 < m
  ·have d1:decide ((m:Int) > 0)=true:=Qa (by omega)
   by_cases h1:a+m=bs.length
   ·have d2:((a:Int)+(m:Int)==(bs.length:Int))=true:=by simp;omega
    have he:aj ss (bs.drop a) 0=⟨3,m,0⟩:=by rw[hr,aj,if_pos ⟨h0,by omega⟩]
    rw[he] at hQ;simp -implicitDefEqProofs only[SX,sevalprocAttr,g1,g2,g6,g7,lB,d1,t0,d2,za.eq_1,za.eq_2,List.set,bd];subst hQ;rfl
   ·have d2:((a:Int)+(m:Int)==(bs.length:Int))=false:=by simp;omega
    have he:aj ss (bs.drop a) 0=⟨2,max m 1,0⟩:=by rw[hr,aj,qa (by omega)]
    rw[he] at hQ;simp -implicitDefEqProofs only[SX,sevalprocAttr,g1,g2,g6,g7,lB,d1,t0,d2,bm,za.eq_1,za.eq_2,List.set,bd];subst hQ;rfl
  ·have d1:decide ((m:Int) > 0)=false:=Ra (by omega)
   have he:aj ss (bs.drop a) 0=⟨2,max m 1,0⟩:=by rw[hr,aj,qa (by omega)]
   rw[he] at hQ;simp -implicitDefEqProofs only[SX,sevalprocAttr,g1,g2,g6,g7,lB,d1,bm,za.eq_1,za.eq_2,List.set,bd];subst hQ;rfl
theorem Mao{S:PV}{ss:List ya}{es:List PV}{l:List (List Oa)}(hS:zd S ss es)(ga:uc ss){B:PV}{bs:List Int}(hB:Oh B bs)(hw:bs.length<=1000000000000)(hre:∀ a,a < bs.length->aj ss (bs.drop a) 0=ef ss l (bs.drop a))(f:Nat):
 ∃ V,JC [.agg [S],B,aa f]=some V/\Pb 5 V (Xb f (lj ss l (bs.drop f))):=by
 have Ve:(AV.pv S).one=true:=by rcases hS.is with⟨h,_⟩ | h <;> rw[h] <;> rfl
 have lB:=hB.mb
 have d0:decide ((f:Int) < 0)=false:=Ra (by omega);have gh:∀ E:Tr,E.get 7= .pv .oa->Af (.Ln 7 5) ⟨E,[]⟩=some ⟨E.set 7 (.uq 0 true 5 []),[.tok 5 0 true]⟩:=fun E h=>by simp only[Af,h];rfl
 have yc:=fun (E:Tr)(g1:E.get 1= .pv B)(g3:E.get 3= .pv (.rp [S] 0))(g7:E.get 7= .uq 0 true 5 [])(g8:E.get 8= .pv (aa f))=>
  Eal (call:=La (fun _=>none) 8) (b:=fL) (live:=[1,3,7,8]) (E0:=E) (H0:=[.tok 5 0 true]) (Q:=fun r=>∃ E nl H,r=(.exit 0,⟨E,H⟩)/\E.get 7= .uq 0 nl 5 (Xb f (lj ss l (bs.drop f)))/\(nl=true->Xb f (lj ss l (bs.drop f))=[]))
   (fun y:Nat×List PV×Bool=>[(1,.pv B),(3,.pv (.rp [S] 0)),(7,.uq 0 y.2.2 5 y.2.1),(8,.pv (aa y.1))]) (fun y=>[.tok 5 y.2.1.length y.2.2]) (fun y=>Xb f (lj ss l (bs.drop f))=y.2.1++Xb y.1 (lj ss l (bs.drop y.1))/\y.2.1.length<=y.1/\(y.2.2=true->y.2.1=[])) (fun y=>bs.length - y.1) bs.length (by unfold Ga;omega) (fun _=>rfl)
   (fun y _=>⟨by simp[fm,WE],Gw rfl,rfl⟩) ⟨(f,[],true),⟨g1,g3,g7,g8,trivial⟩,rfl,⟨rfl,Ql _,fun _=>rfl⟩,by dsimp only;omega⟩
   (by
    rintro⟨k,acc,nl⟩ E ⟨hr,hl,Wc⟩ ⟨g1,g3,g7,g8,_⟩;dsimp only at *
    by_cases hk:k < bs.length
    ·have e1:decide ((k:Int) < (bs.length:Int))=true:=Qa (by omega)
     have Va:bs.drop k≠[]:=fun e=>by have:=uk (i:=k) (l:=bs);rw[e] at this;simp at this;omega
     have Da:=Lao hS ga hB (by omega) (a:=k) (by omega);rw[hre k hk] at Da;have hs:=dE ss l Va;rw[uk] at hs;rw[KR ss l Va,Xb,List.drop_drop] at hr;generalize ef ss l (bs.drop k)=e at *;have st:Db [.tok 5 acc.length nl,.box [.pv (aa 0),.pv (aa 0),.pv (aa 0),.pv (aa 0),.pv (aa 0)]] 5 (.ptr 1 0) (.pv (Jd e k))=some [.tok 5 acc.length nl,Ks e k]:=rae [.tok 5 acc.length nl] e k;have ld:wa [.tok 5 acc.length nl,Ks e k] true 5 (.ptr 1 0)=some (.pv (Jd e k)):=rfl;have bo:∀ H:List fa,((if (List.map AV.pv (Jd e k).cells).length=5/\(List.map AV.pv (Jd e k).cells).all AV.one=true then some (za [AV.pv (PV.int IntKind.i64 0),AV.pv (PV.int IntKind.i64 0),AV.pv (PV.int IntKind.i64 0),AV.pv (PV.int IntKind.i64 0),AV.pv (PV.int IntKind.i64 0)] 0 (List.map AV.pv (Jd e k).cells)) else none).bind fun cs=>
      if cs.all AV.one=true then Option.map (fun ps=>(AV.pv (PV.lit 5 [PV.agg (List.take 5 ps)]),H)) (bd cs) else none)=some (.pv (.lit 5 [Jd e k]),H):=fun H=>rfl
     have ap:Ud [.tok 5 acc.length nl,Ks e k] false .uq 5 true 40 (.uq 0 nl 5 acc) (.pv (.lit 5 [Jd e k]))=some (.uq 0 false 5 (acc++[Jd e k]),[.tok 5 (acc++[Jd e k]).length false,Ks e k]):=by rw[vV (n:=acc.length) (nl':=nl) (id:=0) rfl rfl (by unfold Ac;simp;omega)];simp
     have pl:place [.tok 5 (acc++[Jd e k]).length false,Ks e k] 2 (.ptr 1 0)=some (.ptr 1 2):=rfl;have l2:wa [.tok 5 (acc++[Jd e k]).length false,Ks e k] false 1 (.ptr 1 2)=some (.pv (aa e.size)):=rfl;have t1:IntKind.i64.wrap ((k:Int)+(e.size:Int))=((k+e.size:Nat):Int):=(Gb (by omega)).trans (by omega)
     have fl:Eh (Jd e k)=true:=rfl;generalize xat:Jd e k=ev at *;generalize hQ:RH _ _ _ _=Q;simp -implicitDefEqProofs only[SX,sevalprocAttr,fL,g1,g3,g7,g8,lB,e1,pj,Da,st,ld,bo,ap,pl,l2,t1,fl];subst hQ;refine⟨(k+e.size,acc++[ev],false),[Ks e k],by simp[Has,Tr.na,g1,g3],rfl,⟨by rw[hr];simp,by simp;omega,fun h=>by simp at h⟩,by dsimp only;omega⟩
    ·have e1:decide ((k:Int) < (bs.length:Int))=false:=Ra (by omega)
     have yB:bs.drop k=[]:=Vr (by omega)
     rw[yB,nM,Xb,yi] at hr;generalize hQ:RH _ _ _ _=Q;simp -implicitDefEqProofs only[SX,sevalprocAttr,fL,g1,g3,g7,g8,lB,e1];subst hQ;exact⟨_,nl,_,rfl,by rw[hr];simp[Tr.na,g7],fun h=>by rw[hr];exact Wc h⟩)
 suffices key:Ia (fun V=>Pb 5 V (Xb f (lj ss l (bs.drop f)))) (JC [.agg [S],B,aa f]) by obtain⟨V,h1,h2⟩:=wg key;exact⟨V,h1,h2⟩
 generalize hQ:(fun V=>Pb 5 V (Xb f (lj ss l (bs.drop f))))=Q;simp -implicitDefEqProofs only[JC,SX,sevalprocAttr,eQ,Ve,pj,gh,d0,Tr.na];refine Bb (yc _ (by simp[Tr.na]) (by simp[Tr.na]) (by simp[Tr.na]) (by simp[Tr.na])) ?_;rintro r ⟨_,E,nl,H,rfl,h7,hn⟩;obtain⟨V,hv,hV⟩:=kas H (id:=0) (sz:=5) hn;simp -implicitDefEqProofs only[SX,sevalprocAttr,h7,hv];subst hQ;exact hV
theorem VX:∀ (k:Nat)(l:List qf),∀ x∈Xb k l,mP x
 |_,[],x,h=>by cases h
 |k,e::r,x,h=>by
  rcases Ae.1 h with rfl | h
  ·exact⟨_,_,_,_,_,rfl⟩
  ·exact VX _ _ x h
theorem Fal{S:PV}{ss:List ya}{es:List PV}(hS:zd S ss es)(hz:aG ss):∃ T,NF [.agg [S]]=some (.Ba [T,.bool true])/\
 (T= .Ic\/(uc ss/\Ee ss/\gj ss/\∃ l R,T= .rp R 0/\bf ss=some l/\wk T ss l/\∀ e∈l,Kl e)):=by
 obtain⟨n,V,hr,_,YA,ht⟩:=qab ss;have hr:=hr S es hS;obtain⟨T,ht,ho⟩:=ht (LL ss) (ei ss) (Uac hS);have ny:=Vac hS hz;have Ve:(AV.pv S).one=true:=by rcases hS.is with⟨h,_⟩ | h <;> rw[h] <;> rfl
 have s1:Db [.box [.pv .oa]] 1 (.ptr 0 0) (.pv (.agg [V]))=some [.box [.pv V]]:=by simp[Db,AV.cells,PV.cells,YA,za]
 have d1:(n==n)=true:=by simp
 refine⟨T,?_,?_⟩
 ·rcases ho with⟨h0,rfl⟩ | ⟨rfl,_,_,_,l,_,hT,_⟩
  ·have d2:(n != 0)=true:=by simp[h0]
   have e1:∀ H,Zd H 1 (.pv .Ic) (.pv .Ic)=some true:=fun H=>rfl;have e2:∀ H,Zd H 0 (.pv (.bool true)) (.pv (.bool true))=some true:=fun H=>rfl;simp -implicitDefEqProofs only[NF,SX,sevalprocAttr,YK,Ve,pj,ny,ht,hr,s1,d1,d2,e1,e2]
  ·have d2:((0:Int) != 0)=false:=rfl
   have d1:((0:Int)==0)=true:=rfl;obtain⟨R,rfl⟩:∃ R,T= .rp R 0:=by
    obtain⟨S',NX,DG,RW,h,_⟩:=hT.ex
    exact⟨_,h⟩
   have e1:∀ H,Zd H 1 (.pv (.rp R 0)) (.pv .Ic)=some false:=fun H=>rfl;have e2:∀ H,Zd H 0 (.pv (.bool false)) (.pv (.bool false))=some true:=fun H=>rfl;simp -implicitDefEqProofs only[NF,SX,sevalprocAttr,YK,Ve,pj,ny,ht,hr,s1,d1,d2,e1,e2]
 ·rcases ho with⟨_,h⟩ | ⟨_,h1,h2,h3,l,h4,h5,h6⟩
  ·exact .inl h
  ·obtain⟨S',NX,DG,RW,h,_⟩:=h5.ex
   exact .inr ⟨h1,h2,h3,l,_,h,h4,h5,h6⟩
theorem qad:QJ CF:=⟨rfl,rfl,rfl,rfl,rfl,rfl,rfl,rfl⟩
section
variable {R:List PV}{ss:List ya}{l:List (List Oa)}(hT:wk (.rp R 0) ss l)(ga:uc ss)(ho:∀ e∈l,Kl e)(wc:Ee ss)(ha:bf ss=some l)
include hT ga ho wc ha
theorem Aae{B:PV}{bs:List Int}(hB:Oh B bs)(Vl:bs.length<=65536){C:PV}{cs:List Int}(hC:Pb 1 C (cs.map aa))(Kg:cs.length * 8<=140737488355328):
 ∃ V,XJ [.rp R 0,B,C]=some (.Ba [V,aa (we ss l bs).1.length,.bool true])/\Pb 5 V (Xb 0 (lj ss l bs)):=by
 have D:=qad;obtain⟨A0,n1,i1,_,l1⟩:=wX (n:=6) D (l:=l) (R:=R) (bad:=1) Pd.nil (.inl rfl)
 rw[Ch,De] at n1 i1 l1;have ju:A0=[Dc Oq 8 0 0,Wb (.rp R 0) 1 0 0 0 0 false false]:=by
  match A0,l1,i1.hc,i1.hd with
  | [x,y],_,h1,h2=>simp at h1 h2;rw[h1,h2]
 obtain⟨s0,gw⟩:∃ s0:Tn,s0=⟨Oq,0,[],0,0,0,false,false⟩:=⟨_,rfl⟩;have h0:LC ss l bs cs.length 0 (.rp R 0) s0 0 [] true:=by subst gw;exact⟨oX AW rfl 1 _ _,rfl,rfl,rfl,rfl,rfl,Ql _,fun h=>absurd h (Nat.not_lt_zero _),fun _=>rfl⟩
 have yc:=fun E0=>zae (n:=3) D hT ga ho wc ha hB Vl hC Kg h0 (E0:=E0);have Xk:A0++[fa.tok 5 0 true]=[Dc s0.buf 8 s0.h s0.q.length,Wb (.rp R 0) 1 0 s0.st s0.at_ s0.Ea s0.ab s0.fin,.tok 5 0 true]:=by rw[ju,gw];rfl
 rw[<- Xk] at yc;have e1:=i1.nn
 have z1:((0:Int) != 0)=false:=rfl;have z0:((0:Int)==0)=true:=rfl;have gh:∀ E:Tr,E.get 11= .pv .oa->Af (.Ln 11 5) ⟨E,A0⟩=some ⟨E.set 11 (.uq 2 true 5 []),A0++[.tok 5 0 true]⟩:=fun E h=>by simp only[Af,h,l1];rfl
 have fl:∀ n:Int,Eh (aa n)=true:=fun n=>rfl;have D88:CF 88=some Wt:=rfl;rw[XJ,oc];have hfl:=fun {A s}=>qX (n:=5) D (l:=l) (A:=A) (d:=1) (c:=0) (T:= .rp R 0) (bad:=1) (s:=s) D88;generalize La CF 8=call at *
 suffices key:Ia (fun r=>∃ V,qb r.2 deep r.1=some (.Ba [V,aa (we ss l bs).1.length,.bool true])/\Pb 5 V (Xb 0 (lj ss l bs))) (Gc call xG [.pv (.rp R 0),.pv B,.pv C] []) by obtain⟨r,Zp,V,zo,hV⟩:=wg key;exact⟨V,by show (Gc call xG [.pv (.rp R 0),.pv B,.pv C] []).bind _=_;rw[Zp];exact zo,hV⟩
 generalize hQ:(fun r:AV×List fa=>∃ V,qb r.2 deep r.1=some _/\_)=Q;clear Xk ju;simp -implicitDefEqProofs only[SP,WP,sevalprocAttr,xG,n1,e1,z1,KF,gh,Tr.na];refine Bb (yc _ (by simp[Tr.na]) (by simp[Tr.na]) (by simp[Tr.na]) (by simp[Tr.na]) (by simp[Tr.na]) (by simp[Tr.na])) ?_;rintro r ⟨_,E,s,all,nl,rfl,r9,r11,hp⟩;obtain⟨H1,UA⟩:∃ H1,H1=[Dc s.buf 8 s.h s.q.length,Wb (.rp R 0) 1 0 s.st s.at_ s.Ea s.ab s.fin,.tok 5 all.length nl]:=⟨_,rfl⟩;rw[<- UA];have hI:=hp.is
 rw[<- UA] at hI;have Tj:=hp.fd
 rw[ai,(qM ss l bs [] 0 rfl).1,Kf] at Tj;have c1:(we ss l bs).1=all:=congrArg (fun x=>x.1) Tj
 have c2:(we ss l bs).2=s.q:=congrArg (fun x=>x.2.1) Tj
 obtain⟨k1,k2,_,_,k5⟩:=eE ss l _ bs (gb _);rw[c1,c2] at k1 k2 k5;have k2:vg all+s.q.length=bs.length:=k2
 obtain⟨A',s',br,Ns,hk,Zs,oat,_⟩:=hfl hI hp.fin (by rw[hp.nG];omega)
 obtain⟨xs,hxs⟩:∃ xs,xs=if s.q=[] then [] else [Jd ⟨3,s.q.length,0⟩ s.at_]:=⟨_,rfl⟩
 obtain⟨X,hX⟩:∃ X:PV,X=if s.q=[] then .oa else .lit 5 [Jd ⟨3,s.q.length,0⟩ s.at_]:=⟨_,rfl⟩
 rw[<- hX] at br;have hXl:Pb 5 X xs:=by
  rw[hX,hxs]
  by_cases h:s.q=[]
  ·rw[if_pos h,if_pos h];exact .inl ⟨rfl,rfl⟩
  ·rw[qa h,qa h];exact .inr rfl
 have qN:xs.length<=1:=by rw[hxs];split <;> simp
 have aS:A'[2]? =some (.tok 5 all.length nl):=by rw[hk.get 2 (by rw[UA];simp) (by decide) (by decide),UA];rfl
 obtain⟨nl2,sI⟩:∃ b,b=(nl&&xs.isEmpty):=⟨_,rfl⟩;obtain⟨H2,Ri⟩:∃ H2,H2=A'.set 2 (.tok 5 ((Xb 0 all).length+xs.length) nl2):=⟨_,rfl⟩
 have ap:=H9 (H:=A') (ag:=true) (bytes:=40) (nl:=nl) hXl (es:=Xb 0 all) aS (zj 0 all).symm (by unfold Ac;rw[zj];omega)
 rw[<- sI,<-Ri] at ap;have Kp:Il l H2 1 0 (.rp R 0) 1 s':=by rw[Ri];exact Ns.set (by decide) (by decide) (Still.tok _ _ _)
 obtain⟨row,tp,gH,_⟩:=gR Kp;rw[Zs] at gH;have Rh:Xb 0 (lj ss l bs)=Xb 0 all++xs:=by
  rw[k1,jM,De,hxs,hp.nG]
  by_cases h:s.q=[]
  ·rw[if_pos h,if_pos h];rfl
  ·rw[qa h,qa h];rfl
 have lu:∀ H,mb H 0 (.uq 2 nl 5 (Xb 0 all))=some all.length:=fun H=>by rw[AN,zj]
 have gH:Rr [.rp row 0]=some (aa 0):=gH;have tuq:∀ H,qb H 6 (.uq 2 nl2 5 (Xb 0 all++xs))=some (if nl2 then .oa else .lit 5 (Xb 0 all++xs)):=fun H=>rfl;have Xl:∀ a b c:PV,∀ v:AV,(∀ p,v≠ .pv p)->xt [v,.pv a,.pv b]= .Ba [v,.pv a,.pv b]:=fun a b c v h=>by
  cases v with
  |pv p=>exact absurd rfl (h p)
  |_=>rfl
 have Zai:∀ n,xt [.uq 2 nl2 5 (Xb 0 all++xs),.pv (aa n),.pv (.bool true)]= .Ba [.uq 2 nl2 5 (Xb 0 all++xs),.pv (aa n),.pv (.bool true)]:=fun n=>rfl
 have hW:nl2=true->Xb 0 all++xs=[]:=fun h=>by rw[sI,fb] at h;rw[hp.nil h.1,List.isEmpty_iff.1 h.2];rfl
 rw[Rh,c1] at hQ;generalize Xb 0 all++xs=W at *;clear Ri hxs hX Ns hI Kp;simp -implicitDefEqProofs only[SP,WP,sevalprocAttr,r9,r11,lu,br,ap,z0,tp,gH,fl,Zai];subst hQ;refine⟨if nl2 then .oa else .lit 5 W,?_,?_⟩
 ·rfl
 ·cases nl2 with
  |true=>exact .inl ⟨rfl,hW rfl⟩
  |false=>exact .inr rfl
end
theorem Dao{ss:List ya}{l:List (List Oa)}(ga:uc ss)(wc:Ee ss)(hinj:gj ss)(ha:bf ss=some l){bs:List Int}(hr:∀ b∈bs,0<=b/\b<=255){a:Nat}(h:a < bs.length):aj ss (bs.drop a) 0=ef ss l (bs.drop a):=by
 have hd:∀ b∈bs.drop a,0<=b/\b<=255:=fun b hb=>hr b (No hb)
 have:=Eao ga wc hinj ha (w:=(bs.drop a).map Int.toNat) (yW hd) (fun e=>by
  have:=congrArg List.length e
  simp at this;omega)
 rw[N4 hd] at this;exact this
theorem xad{S:PV}{ss:List ya}{es:List PV}(hS:zd S ss es)(hz:aG ss){B:PV}{bs:List Int}(hB:Oh B bs){C:PV}{cs:List Int}(hC:Pb 1 C (cs.map aa))(Kg:cs.length * 8<=140737488355328):FC [.agg [S],B,C]=some (.bool true):=by
 have Ve:(AV.pv S).one=true:=by rcases hS.is with⟨h,_⟩ | h <;> rw[h] <;> rfl
 obtain⟨T,CE,hT⟩:=Fal hS hz;have uo:=Gae;have lB:=hB.mb
 rcases hT with rfl | ⟨ga,wc,hinj,l,R,rfl,ha,hT,ho⟩
 ·have e1:∀ H,Zd H 1 (.pv .Ic) (.pv .Ic)=some true:=fun H=>rfl
  simp -implicitDefEqProofs only[FC,SX,sevalprocAttr,oA,Ve,pj,CE,uo,e1]
 have e1:∀ H,Zd H 1 (.pv (.rp R 0)) (.pv .Ic)=some false:=fun H=>rfl
 by_cases Vl:bs.length<=65536
 ·have d1:decide ((bs.length:Int) > 65536)=false:=Ra (by omega)
  obtain⟨V,hV,SH⟩:=Aae hT ga ho wc ha hB Vl hC Kg;obtain⟨W,hW,LM⟩:=Mao (l:=l) hS ga hB (by omega) (fun a h=>Dao ga wc hinj ha hB.jg h) 0;rw[Un] at LM;replace hW:JC [.agg [S],B,.int .i64 0]=some W:=hW;have hl:(lj ss l bs).length<=bs.length+1:=by
   obtain⟨k1,_,_,_,k5⟩:=eE ss l _ bs (gb _);rw[k1,Pc]
   split <;> simp <;> omega
  have oN:=Fap SH LM (VX _ _) (by rw[zj];omega);have lW:=LM.len
  rw[zj] at lW;obtain⟨k1,_,_,_,k5⟩:=eE ss l _ bs (gb _);have Da:∀ H,(we ss l bs).2≠[]->∃ p:Nat,Ua H 5 (.pv W) ((we ss l bs).1.length:Int)=some (.pv (.rp (Dd 3 p (we ss l bs).2.length 0) 0)):=fun H Va=>by
   rw[qa Va] at k1;have hlt:(we ss l bs).1.length < (lj ss l bs).length:=by rw[k1];simp
   obtain⟨p,hp⟩:=ER 0 (lj ss l bs) (we ss l bs).1.length hlt
   have hg:(lj ss l bs)[(we ss l bs).1.length]=⟨3,(we ss l bs).2.length,0⟩:=by
    have:(lj ss l bs)[(we ss l bs).1.length]? =some ⟨3,(we ss l bs).2.length,0⟩:=by rw[k1];simp
    exact Dx ((Rb hlt).symm.trans this)
   rw[hg] at hp;refine⟨p,?_⟩;rw[LM.lit (i:=(we ss l bs).1.length) (by rw[zj];exact hlt)];simp only[Ua];rw[if_pos ⟨trivial,by unfold Ta;rw[zj];omega⟩,Uc,hp];rfl
  have hlen:(lj ss l bs).length=(we ss l bs).1.length+if (we ss l bs).2=[] then 0 else 1:=by
   conv=>lhs;rw[k1]
   rw[Pc]
   split <;> rfl
  generalize (lj ss l bs).length=n at *
  generalize (we ss l bs).1.length=a at *
  generalize (we ss l bs).2=q at *
  by_cases hq:q=[]
  ·rw[if_pos hq] at hlen
   have x1:decide ((a:Int)<=(n:Int))=true:=Qa (by omega);have x2:((a:Int)==(n:Int))=true:=by simp;omega
   clear Da;simp -implicitDefEqProofs only[FC,SX,sevalprocAttr,oA,Ve,pj,CE,uo,e1,lB,d1,hV,hW,oN,lW,x1,x2]
  ·rw[qa hq] at hlen
   obtain⟨p,hp⟩:=Da [] hq;have x1:decide ((a:Int)<=(n:Int))=true:=Qa (by omega);have x2:((a:Int)==(n:Int))=false:=by simp;omega
   have w1:IntKind.i64.wrap ((n:Int) - 1)=(a:Int):=(Gb (by omega)).trans (by omega)
   have x3:((a:Int)==(a:Int))=true:=by simp
   have z3:((3:Int)==3)=true:=rfl;have i1:∀ H,place H 0 (.pv (.rp (Dd 3 p q.length 0) 0))=some (.pv (.rp (Dd 3 p q.length 0) 0)):=fun H=>rfl;have j1:∀ H,wa H false 1 (.pv (.rp (Dd 3 p q.length 0) 0))=some (.pv (aa 3)):=fun H=>rfl;generalize Dd 3 p q.length 0=Ro at *
   clear Da;simp -implicitDefEqProofs only[FC,SX,sevalprocAttr,oA,Ve,pj,CE,uo,e1,lB,d1,hV,hW,oN,lW,x1,x2,x3,z3,w1,hp,i1,j1]
 ·have d1:decide ((bs.length:Int) > 65536)=true:=Qa (by omega)
  simp -implicitDefEqProofs only[FC,SX,sevalprocAttr,oA,Ve,pj,CE,uo,e1,lB,d1]
end Go.AM.B1
namespace Go.Proofs.YtijlhblleiaomaaGreat
open Go.ChangeShapes Go.WideShapes Go.ChangeAt Go.RowKit Go.AM
theorem tac:Tryz.prog.cellsOf 116=2:=by kernel_rfl
theorem Sab:Tryz.prog.bytesOf 116=16:=by kernel_rfl
theorem uac:Tryz.prog.cellsOf 117=1:=by kernel_rfl
theorem Uab:Tryz.prog.bytesOf 117=24:=by kernel_rfl
theorem sac:Tryz.prog.cellsOf 107=2:=by kernel_rfl
theorem Rab:Tryz.prog.bytesOf 107=32:=by kernel_rfl
theorem taq{g:Nat}{row:List PV}(h:Sh Tryz.prog (g+2) 116 row):∃ p:Int×Int,jh Tryz.prog 116 row=B1.pr p:=by
 rw[wR Tryz.underlying116];obtain⟨rows,hl,rfl,hr⟩:=dV Tryz.underlying116 h
 match rows,hl with
 | [x,y],_=>
   obtain⟨a,rfl,_⟩:=wJ Tryz.underlying3 (hr 0 _ x rfl rfl)
   obtain⟨b,rfl,_⟩:=wJ Tryz.underlying3 (hr 1 _ y rfl rfl)
   exact⟨(a,b),rfl⟩
theorem N2{α β:Type}{f:α->β}:∀ {es:List β},(∀ e∈es,∃ a,e=f a)->∃ l:List α,es=l.map f
 | [],_=>⟨[],rfl⟩
 |e::es,h=>by obtain⟨a,ha⟩:=h e (by simp);obtain⟨l,hl⟩:=N2 (es:=es) fun e he=>h e (by simp[he]);exact⟨a::l,by rw[ha,hl];rfl⟩
theorem uaq{g:Nat}{row:List PV}(h:Sh Tryz.prog (g+3) 117 row):∃ (V:PV)(l:List (Int×Int)),row=[V]/\B1.sx V l:=by
 rcases EO Tryz.underlying117 h with rfl | ⟨es,rfl,h1,h2,h3⟩
 ·exact⟨_,[],rfl,.inl ⟨rfl,rfl⟩,Ql _⟩
 ·obtain⟨l,hl⟩:=N2 (f:=B1.pr) (es:=es.map (jh Tryz.prog 116)) (by
   intro e he;obtain⟨r,hr,rfl⟩:=Re.1 he
   exact taq (h3 r hr))
  have hlen:l.length=es.length:=by have:=congrArg List.length hl;simpa using this.symm
  refine⟨_,l,rfl,.inr (by rw[tac,hl]),?_⟩;rw[hlen];rw[Sab] at h2;exact Lj h2 (by decide)
theorem cV{R A:Type}{f:R->PV}{Q:PV->A->Prop}:∀ (es:List R),(∀ r∈es,∃ a,Q (f r) a)->∃ l:List A,l.length=es.length/\∀ (k:Nat) v a,(es.map f)[k]? =some v->l[k]? =some a->Q v a
 | [],_=>⟨[],rfl,by simp⟩
 |r::es,h=>by
  obtain⟨a,ha⟩:=h r (by simp);obtain⟨l,h1,h2⟩:=cV es fun x hx=>h x (by simp[hx]);refine⟨a::l,by simp[h1],?_⟩;intro k v b hv hb
  match k with
  |0=>simp at hv hb;subst hv hb;exact ha
  |k+1=>exact h2 k v b (by simpa using hv) (by simpa using hb)
theorem oaq{g:Nat}{row:List PV}(h:Sh Tryz.prog (g+4) 105 row):∃ (P:PV)(ls:List (List (Int×Int)))(ps:List PV),row=[P]/\B1.sk P ls ps/\ls.length * 24<=140737488355328:=by
 rcases EO Tryz.underlying105 h with rfl | ⟨es,rfl,h1,h2,h3⟩
 ·exact⟨_,[],[],rfl,⟨.inl ⟨rfl,rfl⟩,rfl,by simp,by simp⟩,by simp⟩
 ·obtain⟨l,hl,hq⟩:=cV (f:=jh Tryz.prog 117) (Q:=B1.sx) es (by
   intro r hr;obtain⟨V,l,rfl,hV⟩:=uaq (h3 r hr);rw[vR Tryz.underlying117];exact⟨l,hV⟩)
  have hz:l.length * 24<=140737488355328:=by rw[Uab] at h2;rw[hl];exact Lj h2 (by decide)
  exact⟨_,l,es.map (jh Tryz.prog 117),rfl,⟨.inr (by rw[uac]),by rw[wb,hl],hq,by unfold maxLen;omega⟩,hz⟩
theorem raq{g:Nat}{row:List PV}(h:Sh Tryz.prog (g+5) 107 row):∃ (s:B1.ya),(∃ P ps,B1.Yh (jh Tryz.prog 107 row) s P ps)/\s.ba.length * 24<=140737488355328:=by
 rw[wR Tryz.underlying107];obtain⟨rows,hl,rfl,hr⟩:=dV Tryz.underlying107 h
 match rows,hl with
 | [x,y],_=>
   obtain⟨P,ls,ps,rfl,hP,hz⟩:=oaq (hr 0 _ x rfl rfl);obtain⟨b,rfl,_⟩:=wJ Tryz.underlying3 (hr 1 _ y rfl rfl)
   exact⟨⟨ls,b⟩,⟨P,ps,rfl,hP⟩,hz⟩
theorem saq{g:Nat}{row:List PV}(h:Sh Tryz.prog (g+6) 22 row):∃ (S:PV)(ss:List B1.ya)(es:List PV),row=[S]/\B1.zd S ss es/\B1.aG ss:=by
 rcases EO Tryz.underlying22 h with rfl | ⟨es,rfl,h1,h2,h3⟩
 ·exact⟨_,[],[],rfl,⟨.inl ⟨rfl,rfl⟩,rfl,by simp,by simp⟩,⟨by simp,by simp⟩⟩
 ·obtain⟨l,hl,hq⟩:=cV (f:=jh Tryz.prog 107) (Q:=fun e s=>(∃ P ps,B1.Yh e s P ps)/\s.ba.length * 24<=140737488355328) es (fun r hr=>raq (h3 r hr))
  have hz:l.length * 32<=140737488355328:=by rw[Rab] at h2;rw[hl];exact Lj h2 (by decide)
  refine⟨_,l,es.map (jh Tryz.prog 107),rfl,⟨.inr (by rw[sac]),by rw[wb,hl],fun k e s he hs=>(hq k e s he hs).1,by unfold maxLen;omega⟩,hz,?_⟩;intro s hs;obtain⟨k,hk,rfl⟩:=uj hs;exact (hq k _ _ (Rb (by rw[wb];omega)) (Rb hk)).2
theorem qaq{g:Nat}{row:List PV}(h:Sh Tryz.prog (g+7) 24 row):∃ (S:PV)(ss:List B1.ya)(es:List PV),row=[S]/\B1.zd S ss es/\B1.aG ss:=by
 obtain⟨rows,hl,rfl,hr⟩:=dV Tryz.underlying24 h
 match rows,hl with
 | [x],_=>obtain⟨S,ss,es,rfl,h1,h2⟩:=saq (hr 0 _ x rfl rfl);exact⟨S,ss,es,rfl,h1,h2⟩
theorem own:ownKnob Tryz.prog.godebug=none:=by kernel_rfl
theorem laidOut:laidOutB Tryz.prog=true:=by kernel_rfl
theorem wf_i64{n:Int}(h:(Lit.int .i64 n).wf=true): -9223372036854775808<=n/\n<=9223372036854775807:=by
 simp only[Lit.wf,fb,decide_eq_true_eq] at h;exact h
theorem wac:Tryz.prog.cellsOf 5=1:=by kernel_rfl
theorem Wab:Tryz.prog.bytesOf 5=1:=by kernel_rfl
theorem wf_u8{n:Int}(h:(Lit.int .u8 n).wf=true):0<=n/\n<=255:=by
 simp only[Lit.wf,fb,decide_eq_true_eq] at h;exact h
theorem laq{g:Nat}{row:List PV}(h:Sh Tryz.prog (g+2) 25 row):∃ (B:PV)(bs:List Int),row=[B]/\B1.Oh B bs/\bs.length<=reachBytes:=by
 rcases D8 Tryz.underlying25 Tryz.underlying5 h with rfl | ⟨l,rfl,_,hl,hw⟩
 ·exact⟨_,[],rfl,⟨.inl ⟨rfl,rfl⟩,by simp⟩,Ql _⟩
 ·rw[Wab,Nat.mul_one] at hl
  exact⟨_,l,rfl,⟨.inr (by rw[wac]),fun b hb=>wf_u8 (hw b hb)⟩,hl⟩
theorem vac:Tryz.prog.cellsOf 3=1:=by kernel_rfl
theorem Vab:Tryz.prog.bytesOf 3=8:=by kernel_rfl
theorem maq{g:Nat}{row:List PV}(h:Sh Tryz.prog (g+2) 46 row):∃ (U:PV)(us:List Int),row=[U]/\B1.Pb 1 U (us.map B1.aa)/\us.length * 8<=reachBytes/\∀ u∈us,u<=9223372036854775807:=by
 rcases D8 Tryz.underlying46 Tryz.underlying3 h with rfl | ⟨l,rfl,_,hl,hw⟩
 ·exact⟨_,[],rfl,.inl ⟨rfl,rfl⟩,Ql _,by simp⟩
 ·rw[Vab] at hl
  exact⟨_,l,rfl,.inr (by rw[vac]),hl,fun u hu=>(wf_i64 (hw u hu)).2⟩
end Go.Proofs.YtijlhblleiaomaaGreat
