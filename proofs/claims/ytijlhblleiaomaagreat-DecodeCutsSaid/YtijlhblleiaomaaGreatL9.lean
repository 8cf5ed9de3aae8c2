/- What functions of the program compute. -/
import Derived.Test.YtijlhblleiaomaaGreatL8
import Derived.Test.YtijlhblleiaomaaGreatL7
import Derived.Test.YtijlhblleiaomaaGreatL6
import Derived.Test.YtijlhblleiaomaaGreatL2
import Derived.Test.YtijlhblleiaomaaGreatL3
import Derived.Test.YtijlhblleiaomaaGreatL4
import Derived.Test.YtijlhblleiaomaaGreatK3
import Derived.Test.YtijlhblleiaomaaGreatRows
set_option linter.unusedVariables false
set_option linter.unusedSimpArgs false
set_option maxRecDepth 100000
namespace Go.AM.B1
open Go.AM Go.AM.So
section
variable {A:List ba}{c:Nat}{call:Sa}{S R:PV}{ss:List Ob}{es:List PV}{un Jc out:Int}{rb:List Int}
structure M0(H:List ba)(c:Nat)(S R:PV)(un Jc out:Int)(st fin:Bool):Prop where
 ld:∀ o,pa H false 1 (.ptr c o)=Lh false 1 [.pv S,.pv (i64 un),.pv R,.pv (i64 Jc),.pv (i64 out),.pv (.bool st),.pv (.bool fin)] o
 pl:∀ d,place H d (.ptr c 0)=some (.ptr c (0+d))
 l0:pa H true 1 (.ptr c 0)=some (.pv (.agg [S]))
 nn:Kq H 1 (.ptr c 0) (.pv .qf)=some false
theorem M0.of{H:List ba}{st fin:Bool}(h:H[c]? =some (G5 S R un Jc out st fin)):M0 H c S R un Jc out st fin:=by
 have hB:G5 S R un Jc out st fin= .box [.pv S,.pv (i64 un),.pv R,.pv (i64 Jc),.pv (i64 out),.pv (.bool st),.pv (.bool fin)]:=rfl
 refine⟨fun o=>by simp only[pa,h,hB],fun d=>Wg h d 0,by simp only[pa,h,hB];rfl,by simp only[Kq,h,hB]⟩
theorem M0.get{H:List ba}{st fin:Bool}(h:M0 H c S R un Jc out st fin):pa H false 1 (.ptr c 1)=some (.pv (i64 un))/\pa H false 1 (.ptr c 2)=some (.pv R)/\pa H false 1 (.ptr c 3)=some (.pv (i64 Jc))/\pa H false 1 (.ptr c 4)=some (.pv (i64 out))/\pa H false 1 (.ptr c 5)=some (.pv (.bool st))/\pa H false 1 (.ptr c 6)=some (.pv (.bool fin))/\pa H true 1 (.ptr c 0)=some (.pv (.agg [S]))/\∀ d,place H d (.ptr c 0)=some (.ptr c (0+d)):=
 ⟨h.ld _,h.ld _,h.ld _,h.ld _,h.ld _,h.ld _,h.l0,h.pl⟩
end
def C6(l:List Int):ByteArray:=⟨(l.map fun n=>UInt8.ofNat n.toNat).toArray⟩
theorem uF:∀ l:List Int,bytesOf (l.map u8)=some (l.map fun n=>UInt8.ofNat n.toNat)
 | []=>rfl
 |x::l=>by
  show (bytesOf (l.map u8)).map (UInt8.ofNat x.toNat:: ·)=_
  rw[uF l];rfl
theorem MR(H:List ba)(l:List Int):TH H (.pv (.lit 1 (l.map u8)))=some (C6 l):=by
 show (bytesOf (l.map u8)).map _=_
 rw[uF];rfl
def X2(e:PV):Prop:=∃ a b c d f:Int,e= .agg [i64 a,i64 b,i64 c,i64 d,i64 f]
theorem fZ{e:PV}(h:X2 e):Ql (.row [1,1,1,1,1]) e e=some true:=by
 obtain⟨a,b,c,d,f,rfl⟩:=h;show cj [1,1,1,1,1] [i64 a,i64 b,i64 c,i64 d,i64 f] [i64 a,i64 b,i64 c,i64 d,i64 f]=_;simp[cj,Us]
theorem eN{V W:PV}{evs:List PV}(hV:Zh 5 V evs)(hW:Zh 5 W evs)(he:∀ x∈evs,X2 x)(hl:evs.length<=140737488355328):yc [V,W]=some (.bool true):=by
 have lV:=hV.len
 have lW:=hW.len
 have Y8:∀ {V:PV},Zh 5 V evs->∀ (i:Nat)(h:i < evs.length) H,∃ c,ta H 5 (.pv V) (i:Int)=some (.pv (.rp c 0))/\(∀ H',pa H' true 5 (.pv (.rp c 0))=some (.pv evs[i])):=fun {V} hV i h H=>by obtain⟨a,b,c,d,f,hx⟩:=he _ (saa h);refine⟨[i64 a,i64 b,i64 c,i64 d,i64 f],?_,fun H'=>by rw[hx];rfl⟩;rw[hV.lit (i:=i) h];simp only[ta];rw[if_pos ⟨trivial,by unfold Ia;omega⟩,Eaa,caa h,hx];rfl
 have D7:=fun (E:Tr)(h0:E.get 0= .pv V)(h1:E.get 1= .pv W)(h5:E.get 5= .pv (i64 0))=>
  xo (call:=Da (fun _=>none) 8) (b:=wh) (live:=[0,1,5]) (E0:=E) (H0:=[]) (Q:=fun r=>∃ E,r=(.exit 0,⟨E,[]⟩))
   (fun i:Nat=>[(0,.pv V),(1,.pv W),(5,.pv (i64 i))]) (fun _=>[]) (fun i x=>x=i) evs.length (by unfold ua;omega) (fun _=>rfl)
   (fun i x _=>⟨by simp[vj],Bo rfl,rfl⟩) ⟨0,⟨h0,h1,h5,trivial⟩,rfl,rfl⟩
   (by
    rintro _ i E hi rfl ⟨g0,g1,g5,_⟩;obtain⟨c1,a1,b1⟩:=Y8 hV i hi [];obtain⟨c2,a2,b2⟩:=Y8 hW i hi [];have hs:=fZ (he _ (saa hi));generalize evs[i]=e at *;have e1:decide ((i:Int) < (evs.length:Int))=true:=Ea (by omega);have t1:IntKind.i64.wrap ((i:Int)+1)=((i+1:Nat):Int):=sg (by omega)
    generalize hQ:RH _ _ _ _=Q;simp -implicitDefEqProofs only[SX,sevalprocAttr,wh,g0,g1,g5,lV,e1,a1,a2,b1,b2,hs,t1];subst hQ;exact⟨i+1,[],by simp[Has,Tr.aa,g0,g1],rfl,rfl⟩)
   (by rintro i E rfl ⟨g0,g1,g5,_⟩;have e1:decide ((evs.length:Int) < (evs.length:Int))=false:=Ga (by omega);generalize hQ:(fun r:Ex×St=>r.1.stop=true/\_)=Q;simp -implicitDefEqProofs only[SX,sevalprocAttr,wh,g0,g5,lV,e1];subst hQ;exact⟨rfl,_,rfl⟩)
 have x1:((evs.length:Int) != (evs.length:Int))=false:=by simp
 apply bl;generalize hQ:(fun x=>x=PV.bool true)=Q;simp -implicitDefEqProofs only[yc,SX,sevalprocAttr,gl,lV,lW,x1];refine wa (D7 _ (by simp[Tr.aa]) (by simp[Tr.aa]) (by simp[Tr.aa])) ?_;rintro r ⟨_,E,rfl⟩;simp -implicitDefEqProofs only[SX,sevalprocAttr];subst hQ;rfl
theorem HY(H:List ba){id sz:Nat}{nl:Bool}{es:List PV}(h:nl=true->es=[]):∃ V,Ub H 6 (.uq id nl sz es)=some V/\Zh sz V es:=by
 cases nl with
 |true=>rw[h rfl];exact⟨.ga,rfl,.inl ⟨rfl,rfl⟩⟩
 |false=>exact⟨.lit sz es,rfl,.inr rfl⟩
theorem xH{H:List ba}{id n sz bytes:Nat}{nl nl' ag:Bool}{es ys:List PV}{V:PV}(hV:Zh sz V ys)(hg:H[id]? =some (.tok sz n nl'))(hn:n=es.length)(hr:eb (es.length+ys.length) bytes):
 Cb H false .uq sz ag bytes (.uq id nl sz es) (.pv V)=some (.uq id (nl&&ys.isEmpty) sz (es++ys),H.set id (.tok sz (es.length+ys.length) (nl&&ys.isEmpty))):=by
 rcases hV with⟨rfl,rfl⟩ | rfl
 ·subst hn
  simp only[Cb,Baa,if_false,hg,Kf,if_true,Daa];rw[if_pos ⟨trivial,trivial,trivial,by simpa using hr⟩]
 ·exact GA hg hn hr
theorem sV:∃ R,qj []=some (.rp R 0)/\Uo (.rp R 0) Ms PC/\Xb Ms/\Df Ms/\∀ e∈PC,sj e:=by
 obtain⟨Ba,T,h1,hT,he⟩:=fO (LK (by decide) (by decide) (by decide)) LO IK GL SL;have H7:Df Ms:=fun i j hi hj=>(show ∀ i:Fin 3,∀ j:Fin 3,Ms[i].parts.length < Ms[j].parts.length->vf Ms[i] Ms[j]=false by decide) ⟨i,hi⟩ ⟨j,hj⟩;have lal:(.lit 2 (Ms.map uf):PV)= .lit 2 [.agg [.lit 1 [.lit 2 [.agg [i64 0,i64 127]]],i64 0],.agg [.lit 1 [.lit 2 [.agg [i64 194,i64 223]],.lit 2 [.agg [i64 128,i64 191]]],i64 128],.agg [.lit 1 [.lit 2 [.agg [i64 225,i64 225]],.lit 2 [.agg [i64 128,i64 191]],.lit 2 [.agg [i64 128,i64 191]]],i64 4096]]:=rfl
 rw[lal] at h1;obtain⟨R,hR⟩:=(K4.of hT Ba).ptr
 subst hR;refine⟨R,?_,hT,Ba,H7,he⟩;simp -implicitDefEqProofs only[qj,SX,sevalprocAttr,im,h1,fa.eq_1,fa.eq_2,List.set,Tc]
def OE:List Int:=[0,0,0,0,0,0,0,0]
theorem S5:eo OE 0 []:=⟨rfl,by decide,by decide,fun i hi=>by simp at hi,fun x hx=>by cases hx⟩
theorem EP{call:Sa}(H:List ba):ef call gm [.pv (i64 8)] H=some (.mc [.ptr H.length 0,.pv (i64 0)],H++[We OE 8 0 0]):=by
 have e1:decide ((8:Int) < 1)=false:=rfl;have e2:decide ((8:Int) > 8)=false:=rfl;have hb:We OE 8 0 0= .box [.pv (.int .u8 0),.pv (.int .u8 0),.pv (.int .u8 0),.pv (.int .u8 0),.pv (.int .u8 0),.pv (.int .u8 0),.pv (.int .u8 0),.pv (.int .u8 0),.pv (.int .i64 8),.pv (.int .i64 0),.pv (.int .i64 0)]:=rfl
 rw[hb];have hm:∀ n,qy [.ptr n 0,.pv (.int .i64 0)]= .mc [.ptr n 0,.pv (i64 0)]:=fun _=>rfl
 simp -implicitDefEqProofs only[SX,sevalprocAttr,gm,e1,e2,fa.eq_1,fa.eq_2,List.set,Tc,hm]
section
variable {call call':Sa}{R:List PV}{bad:Int}(H:List ba)
theorem rO(h80:∀ H,call 80 [.pv (i64 8)] H=ef call' gm [.pv (i64 8)] H)(hb:bad=1\/bad=3):
 ef call yk [.pv (.rp R 0),.pv (i64 bad)] H=some (.mc [.ptr (H.length+1) 0,.pv (i64 0)],H++[We OE 8 0 0]++[Lc (.rp R 0) bad H.length 0 0 0 false false]):=by
 have hc:=EP (call:=call') H;rw[<- h80] at hc;have e1:∀ H,Kq H 1 (.pv (.rp R 0)) (.pv .qf)=some false:=fun H=>rfl;have hl:(H++[We OE 8 0 0]).length=H.length+1:=by simp
 have hm:∀ n,qy [.ptr n 0,.pv (.int .i64 0)]= .mc [.ptr n 0,.pv (i64 0)]:=fun _=>rfl
 have hd:Lc (.rp R 0) bad H.length 0 0 0 false false= .box [.pv (.rp R 0),.pv (.int .i64 bad),.ptr H.length 0,.pv (.int .i64 0),.pv (.int .i64 0),.pv (.int .i64 0),.pv (.bool false),.pv (.bool false)]:=rfl
 rw[hd];rcases hb with rfl | rfl
 ·have e3:((1:Int) != 1)=false:=rfl
  simp -implicitDefEqProofs only[SX,sevalprocAttr,yk,e1,e3,hc,hl,hm,fa.eq_1,fa.eq_2,List.set,Tc]
 ·have e3:((3:Int) != 1)=true:=rfl
  have e4:((3:Int) != 3)=false:=rfl;simp -implicitDefEqProofs only[SX,sevalprocAttr,yk,e1,e3,e4,hc,hl,hm,fa.eq_1,fa.eq_2,List.set,Tc]
end
section
variable {call call':Sa}{A:List ba}{d c:Nat}(hA:Vd A)(h2:eZ A d c){T:PV}{bad:Int}{s:iR}
include hA h2
theorem qI(h89:∀ H (k:Int),call 89 [.ptr d 0,.pv (i64 k)] H=ef call' Yb [.ptr d 0,.pv (i64 k)] H){call'':Sa}
 (h82:∀ H (n:Int),call' 82 [.ptr c 0,.pv (i64 n)] H=ef call'' Nc [.ptr c 0,.pv (i64 n)] H) (h83:∀ H,call' 83 [.ptr c 0] H=ef call'' Dc [.ptr c 0] H)
 (hd:A[d]? =some (Lc T bad c s.st s.at_ s.Jc s.ya false)) (hc:A[c]? =some (We s.buf 8 s.h s.q.length)) (hq:eo s.buf s.h s.q) (Y8:s.at_<=1000000):
 ∃ Y st' h',Still Y/\eo s.buf h' []/\(st'=0\/s.q=[]/\st'=s.st)/\ef call oc [.ptr d 0] A=some (.pv (.mc [if s.q=[] then .ga else .lit 5 [ah ⟨3,s.q.length,0⟩ s.at_],i64 0]),Sl A d c (Lc T bad c st' ((s.at_+s.q.length:Nat):Int) s.Jc s.ya true) (We s.buf 8 (h':Nat) 0) Y):=by
 have tp:=HB hd hc;have pd:=HF hd;have ld:=tA hd;have hf:=wH (T:=T) (bad:=bad) (C:= .rp (Vh s.buf 8 s.h s.q.length) 0) (st:=s.st) (at_:=s.at_) (Jc:=s.Jc) (ya:=s.ya) (fin:=false);rw[taa (by simp)] at hf;have hm:∀ a b:PV,qy [.pv a,.pv b]= .pv (.mc [a,b]):=fun _ _=>rfl
 have fl:∀ n:Int,Nj (i64 n)=true:=fun n=>rfl;have n9:(A.set d (Lc T bad c s.st s.at_ s.Jc s.ya true))[c]? =some (We s.buf 8 s.h s.q.length):=by rw[Jaa h2.ne];exact hc
 have s7:Ha A 1 (.ptr d 7) (.pv (.bool true))=some (Sl A d c (Lc T bad c s.st s.at_ s.Jc s.ya true) (We s.buf 8 s.h s.q.length) []):=by
  rw[b6 hd]
  congr 1
  unfold Sl;rw[Kab];obtain⟨T8,hg'⟩:=qaa.1 n9
  rw[<- hg'];exact (List.set_getElem_self _).symm
 have tp2:=HB (cE h2 (o1:=Lc T bad c s.st s.at_ s.Jc s.ya true) (o2:=We s.buf 8 s.h s.q.length) (X:=[])) (SI h2);have hh:=TI (T:=T) (bad:=bad) (st:=s.st) (at_:=s.at_) (Jc:=s.Jc) (ya:=s.ya) (fin:=true) (r:=8) hq;generalize Nq T bad (.rp (Vh s.buf 8 s.h s.q.length) 0) s.st s.at_ s.Jc s.ya false=row at *
 generalize Nq T bad (.rp (Vh s.buf 8 s.h s.q.length) 0) s.st s.at_ s.Jc s.ya true=bae at *
 obtain⟨f,hfe⟩:∃ f:Int,f=if s.ya then 182 else 0:=⟨_,rfl⟩
 rw[<- hfe] at hf;have hgo:(f != 0)=true->(f != 182)=false:=fun h=>by
  cases hs:s.ya with
  |true=>rw[hs,if_pos rfl] at hfe;rw[hfe];rfl
  |false=>rw[hs,taa (by simp)] at hfe;rw[hfe] at h;cases h
 by_cases hq0:s.q=[]
 ·have hz:(((s.q.length:Nat):Int)==0)=true:=by rw[hq0];rfl
  refine⟨[],s.st,s.h,Still.nil,?_,.inr ⟨hq0,rfl⟩,?_⟩
  ·rw[hq0] at hq;exact hq
  ·rw[if_pos hq0]
   have hql:s.q.length=0:=by rw[hq0];rfl
   obtain⟨H1,hH1⟩:∃ H1,H1=Sl A d c (Lc T bad c s.st s.at_ s.Jc s.ya true) (We s.buf 8 s.h s.q.length) []:=⟨_,rfl⟩;rw[<- hH1] at s7 tp2;have mal:Sl A d c (Lc T bad c s.st ((s.at_+s.q.length:Nat):Int) s.Jc s.ya true) (We s.buf 8 s.h 0) []=H1:=by rw[hH1,hql];rfl
   rw[mal];cases hf0:(f != 0) with
   |true=>have hf2:=hgo hf0;simp -implicitDefEqProofs only[SP,WP,sevalprocAttr,oc,tp,pd,ld,hf,fl,hf0,hf2,s7,tp2,hh,hz,hm]
   |false=>simp -implicitDefEqProofs only[SP,WP,sevalprocAttr,oc,tp,pd,ld,hf,fl,hf0,s7,tp2,hh,hz,hm]
 ·have hz:(((s.q.length:Nat):Int)==0)=false:=beq_false_of_ne (by have:=Zab.2 hq0;omega)
  obtain⟨Y,y1,y2⟩:=dO (call:=call') (call':=call'') hA h2 Still.nil (T:=T) (bad:=bad) (st:=s.st) (Jc:=s.Jc) (at_:=s.at_) (ya:=s.ya) (fin:=true) hq h82 h83 Y8 (k:=3) (u:=0) (fun h=>absurd h (by decide)) (fun _=>rfl)
  have hqn:=(Vy (call:=call) hq (H:=[.box ((Vh s.buf 8 s.h s.q.length).map .pv)]) (c:=0) rfl (waa _)).1
  rw[Hab] at hqn;rw[<- h89,cab] at y2;have bsl:∀ (e:Kv)(a:Int)(H:List ba),((if (List.map AV.pv (ah e a).cells).length=5/\(List.map AV.pv (ah e a).cells).all AV.one=true then some (fa [AV.pv (PV.int IntKind.i64 0),AV.pv (PV.int IntKind.i64 0),AV.pv (PV.int IntKind.i64 0),AV.pv (PV.int IntKind.i64 0),AV.pv (PV.int IntKind.i64 0)] 0 (List.map AV.pv (ah e a).cells)) else none).bind fun cs=>
   if cs.all AV.one=true then Option.map (fun ps=>(AV.pv (PV.lit 5 [PV.agg (List.take 5 ps)]),H)) (Tc cs) else none)=some (.pv (.lit 5 [ah e a]),H):=fun e a H=>rfl
  refine⟨Y,0,_,y1,hqn,.inl rfl,?_⟩;rw[taa hq0];cases hf0:(f != 0) with
  |true=>have hf2:=hgo hf0;simp -implicitDefEqProofs only[SP,WP,sevalprocAttr,oc,tp,pd,ld,hf,fl,hf0,hf2,s7,tp2,hh,hz,y2,bsl,hm]
  |false=>simp -implicitDefEqProofs only[SP,WP,sevalprocAttr,oc,tp,pd,ld,hf,fl,hf0,s7,tp2,hh,hz,y2,bsl,hm]
end
structure wL(t:Nat->Option Ue):Prop where
 A7:t 80=some gm
 v7:t 81=some xe
 R6:t 82=some Nc
 U6:t 83=some Dc
 x7:t 86=some yk
 y7:t 87=some Sf
 W6:t 89=some Yb
 u7:t 90=some Le
structure pq(l:List (List de))(A:List ba)(d c:Nat)(T:PV)(bad:Int)(s:iR):Prop where
 Qv:Vd A
 two:eZ A d c
 hd:A[d]? =some (Lc T bad c s.st s.at_ s.Jc s.ya s.fin)
 hc:A[c]? =some (We s.buf 8 s.h s.q.length)
 q:eo s.buf s.h s.q
 st:stays l 0 s.q=some s.st
structure Fx(A A':List ba)(d c:Nat):Prop where
 le:A.length<=A'.length
 get:∀ k,k < A.length->k≠d->k≠c->A'[k]? =A[k]?
theorem Fx.trans{A B C:List ba}{d c:Nat}(h:Fx A B d c)(k:Fx B C d c):Fx A C d c:=⟨sac h.le k.le,fun i hi h1 h2=>(k.get i (eac hi h.le) h1 h2).trans (h.get i hi h1 h2)⟩
theorem Fx.Sl{A:List ba}{d c:Nat}{o1 o2:ba}{X:List ba}:Fx A (Sl A d c o1 o2 X) d c:=⟨by rw[sm];omega,fun k hk h1 h2=>SY hk h1 h2⟩
theorem Fx.app{A:List ba}{d c:Nat}(X:List ba):Fx A (A++X) d c:=⟨by simp,fun k hk _ _=>gaa hk⟩
theorem pq.app{l:List (List de)}{A:List ba}{d c:Nat}{T:PV}{bad:Int}{s:iR}(h:pq l A d c T bad s){X:List ba}(hX:Still X):pq l (A++X) d c T bad s:=
 ⟨hX.Qv h.Qv,⟨by have:=h.two.ld;simp;omega,by have:=h.two.lc;simp;omega,h.two.ne⟩,by rw[gaa h.two.ld];exact h.hd,by rw[gaa h.two.lc];exact h.hc,h.q,h.st⟩
section
variable {t:Nat->Option Ue}(D:wL t){n:Nat}{T:PV}{ss:List Ob}{l:List (List de)}(hT:Uo T ss l)(Ba:Xb ss)(ho:∀ e∈l,sj e)(H7:Df ss)(ha:ig ss=some l)
variable {A:List ba}{d c:Nat}{bad:Int}{s:iR}
include D
theorem vJ{R:List PV}(hG:Vd A)(hb:bad=1\/bad=3):∃ A',Da t (n+2) 86 [.pv (.rp R 0),.pv (i64 bad)] A=some (.mc [.ptr (A.length+1) 0,.pv (i64 0)],A')/\pq l A' (A.length+1) A.length (.rp R 0) bad ⟨OE,0,[],0,0,0,false,false⟩/\(∀ k,k < A.length->A'[k]? =A[k]?)/\A'.length=A.length+2:=by
 refine⟨_,(ai _ _ _ _ _ D.x7).trans (rO A (fun H=>ai _ _ _ _ _ D.A7) hb),⟨?_,⟨by simp,by simp,by omega⟩,by simp,?_,S5,rfl⟩,fun k hk=> ?_,by simp⟩
 ·intro m hm o ho
  simp at hm;rcases Naa.1 ho with h | h
  ·rcases Naa.1 h with h | h
   ·exact hG m (by omega) o h
   ·simp at h;subst h;exact As (uB m _)
  ·simp at h;subst h
   exact As (by simp[Lc,oO,xE,vj,Zn,show A.length < m by omega])
 ·rw[gaa (by simp),Paa (by omega)];simp
 ·rw[gaa (by simp;omega),gaa hk]
theorem SD(h88:t 88=some oc)(hI:pq l A d c T bad s)(hf:s.fin=false)(Y8:s.at_<=1000000):∃ A' s',Da t (n+3) 88 [.ptr d 0] A=some (.pv (.mc [if s.q=[] then .ga else .lit 5 [ah ⟨3,s.q.length,0⟩ s.at_],i64 0]),A')/\pq l A' d c T bad s'/\Fx A A' d c/\s'.q=[]/\s'.at_=s.at_+s.q.length/\s'.Jc=s.Jc/\s'.ya=s.ya/\s'.fin=true:=by
 obtain⟨Y,st',h',hY,hq,W7,hr⟩:=qI (call:=Da t (n+2)) (call':=Da t (n+1)) (call'':=Da t n) hI.Qv hI.two (T:=T) (bad:=bad) (s:=s) (fun H k=>ai _ _ _ _ _ D.W6) (fun H m=>ai _ _ _ _ _ D.R6) (fun H=>ai _ _ _ _ _ D.U6) (by have:=hI.hd;rw[hf] at this;exact this) hI.hc hI.q Y8
 have hs0:st'=0:=by
  rcases W7 with h | ⟨h,h'⟩
  ·exact h
  ·have:=hI.st
   rw[h] at this;injection this with this
   rw[h',<-this]
 refine⟨_,⟨s.buf,h',[],st',s.at_+s.q.length,s.Jc,s.ya,true⟩,(ai _ _ _ _ _ h88).trans hr,⟨Yy hI.Qv hI.two hY,⟨?_,?_,hI.two.ne⟩,cE hI.two,SI hI.two,hq,by rw[hs0];rfl⟩,Fx.Sl,rfl,rfl,rfl,rfl,rfl⟩
 ·have:=hI.two.ld;rw[sm];omega
 ·have:=hI.two.lc;rw[sm];omega
include hT Ba ho H7 ha
theorem zA(hI:pq l A d c T bad s)(hf:s.fin=false)(hs:s.ya=false){U:AV}{bs:List Int}(hU:mI U bs A.length)(ht0:0<=s.Jc)(ht1:s.Jc+bs.length<=65536)(Y8:s.at_<=65536):
 ∃ A' s' nl out,Da t (n+5) 87 [.ptr d 0,U] A=some (.mc [.uq A.length nl 5 (Oc s.at_ out),.pv (i64 0)],A')/\pq l A' d c T bad s'/\Fx A A' d c/\A.length < A'.length/\Dl ss l (bad==3) s.q bs=(out,s'.q,s'.ya)/\s'.at_=s.at_+xz out/\s'.Jc=s.Jc+bs.length/\s'.fin=false/\(nl=true->out=[]):=by
 have hd:=hI.hd
 rw[hf,hs] at hd;obtain⟨r,hr,nl,Y,buf,q,h,st,out,sp,rfl,hY,hq,W7,hfd,Y7,hYl⟩:=wc (sL hT Ba ho H7 ha (call:=Da t (n+4)) (call':=Da t (n+3)) (call'':=Da t (n+2)) (call3:=Da t (n+1)) hI.Qv hI.two (bad:=bad) (fun H x=>ai _ _ _ _ _ D.u7) (fun H k=>ai _ _ _ _ _ D.W6) (fun H x=>ai _ _ _ _ _ D.v7) (fun H m=>ai _ _ _ _ _ D.R6) (fun H=>ai _ _ _ _ _ D.U6) (s:=s) hd hI.hc hI.q hI.st hU ht0 ht1 Y8);refine⟨_,⟨buf,h,q,st,s.at_+xz out,s.Jc+bs.length,sp,false⟩,nl,out,(ai _ _ _ _ _ D.y7).trans hr,⟨Yy hI.Qv hI.two hY,⟨?_,?_,hI.two.ne⟩,cE hI.two,SI hI.two,hq,W7⟩,Fx.Sl,?_,hfd,rfl,rfl,rfl,Y7⟩
 ·have:=hI.two.ld;rw[sm];omega
 ·have:=hI.two.lc;rw[sm];omega
 ·rw[sm];omega
end
section
variable {l:List (List de)}{A:List ba}{d c:Nat}{T:PV}{bad:Int}{s:iR}(h:pq l A d c T bad s)
include h
theorem zF:∃ row,Ub A 6 (.ptr d 0)=some (.rp row 0)/\Zb [.rp row 0]=some (i64 s.q.length)/\Ek [.rp row 0]=some (i64 s.Jc)/\Pf [.rp row 0]=some (i64 8)/\Kj [.rp row 0]=some (.bool s.ya):=
 ⟨_,HB h.hd h.hc,TI h.q,jP,GU h.q,pL⟩
theorem pq.nn:Kq A 1 (.ptr d 0) (.pv .qf)=some false:=J5 h.hd
end
theorem oZ:Dl Ms PC (1==3) [] [65,225,128]=([⟨1,1,65⟩],[225,128],false):=by kernel_rfl
theorem N0:Dl Ms PC (1==3) [225,128] [66,195]=([⟨2,2,0⟩,⟨1,1,66⟩],[195],false):=by kernel_rfl
theorem Vd.nil:Vd []:=fun _ _ _ h=>by cases h
theorem qN{A:List ba}{n:Nat}{k:Nat}(hn:A.length=n):(A++[ba.tok 1 k false])[n]? =some (ba.tok 1 k false)/\(A++[ba.tok 1 k false]).set n ba.dead=A++[ba.dead]:=by
 subst hn;exact⟨by simp,by simp⟩
theorem cL:wL Ug:=⟨rfl,rfl,rfl,rfl,rfl,rfl,rfl,rfl⟩
theorem BO:oi []=some (.bool true):=by
 obtain⟨R,htw,hT,Ba,H7,he⟩:=sV;have h1:=oZ;have h2:=N0;have D:=cL;obtain⟨A0,n1,i1,_,l1⟩:=vJ (n:=6) D (l:=PC) (R:=R) (bad:=1) Vd.nil (.inl rfl)
 rw[Dab,eab] at n1 i1 l1;obtain⟨A1,hA1⟩:∃ A1,A1=A0++[.dead]:=⟨_,rfl⟩;have i1':=i1.app Still.dead
 rw[<- hA1] at i1';have hs1:=qN (k:=3) l1;rw[<- hA1] at hs1;have R9:A1.length=3:=by rw[hA1];simp[l1]
 obtain⟨A2,s2,nl2,o2,n2,i2,_,_,f2,a2,t2,fn2,hn2⟩:=zA (n:=3) D hT Ba he H7 SL i1' rfl rfl (mI.of (B:= .lit 1 [u8 65,u8 225,u8 128]) (bs:=[65,225,128]) ⟨.inr rfl,by decide⟩ _) (by decide) (by decide) (by decide);replace f2:=h1.symm.trans f2
 have q1:[⟨1,1,65⟩]=o2:=congrArg (fun x=>x.1) f2;have q2:[225,128]=s2.q:=congrArg (fun x=>x.2.1) f2
 have q3:false=s2.ya:=congrArg (fun x=>x.2.2) f2
 subst q1;have hn2:nl2=false:=by cases nl2 with | false=>rfl | true=>cases hn2 rfl
 subst hn2;rw[R9] at n2;obtain⟨bae,tp2,hh2,_⟩:=zF i2;rw[<- q2] at hh2;obtain⟨m2,hm2⟩:∃ m,A2.length=m:=⟨_,rfl⟩
 obtain⟨A3,hA3⟩:∃ A3,A3=A2++[.dead]:=⟨_,rfl⟩;have i2':=i2.app Still.dead
 rw[<- hA3] at i2';have hs2:=qN (k:=2) hm2;rw[<- hA3] at hs2;have at2:s2.at_=1:=by rw[a2];rfl
 have tt2:s2.Jc=3:=by rw[t2];rfl
 obtain⟨A4,s4,nl4,o4,n4,i4,_,_,f4,a4,t4,fn4,hn4⟩:=zA (n:=3) D hT Ba he H7 SL i2' fn2 q3.symm (mI.of (B:= .lit 1 [u8 66,u8 195]) (bs:=[66,195]) ⟨.inr rfl,by decide⟩ _) (by rw[tt2];decide) (by rw[tt2];decide) (by rw[at2];decide)
 rw[<- q2] at f4;replace f4:=h2.symm.trans f4
 have q1:[⟨2,2,0⟩,⟨1,1,66⟩]=o4:=congrArg (fun x=>x.1) f4;have q4:[195]=s4.q:=congrArg (fun x=>x.2.1) f4
 subst q1;have hn4:nl4=false:=by cases nl4 with | false=>rfl | true=>cases hn4 rfl
 subst hn4;rw[at2] at n4 a4;have at4:s4.at_=4:=by rw[a4];rfl
 obtain⟨A5,s5,n5,_⟩:=SD (n:=5) D rfl i4 fn4 (by rw[at4];decide);rw[<- q4,at4,taa (by simp)] at n5;have e1:=i1.nn
 have sm1:yc [.lit 5 (Oc 0 [⟨1,1,65⟩]),.lit 5 [.agg [.int .i64 1,.int .i64 0,.int .i64 1,.int .i64 65,.int .i64 0]]]=some (.bool true):=by kernel_rfl
 have sm2:yc [.lit 5 (Oc 1 [⟨2,2,0⟩,⟨1,1,66⟩]),.lit 5 [.agg [.int .i64 2,.int .i64 1,.int .i64 2,.int .i64 0,.int .i64 0],.agg [.int .i64 1,.int .i64 3,.int .i64 1,.int .i64 66,.int .i64 0]]]=some (.bool true):=by kernel_rfl
 have sm3:yc [.lit 5 [ah ⟨3,([195]:List Int).length,0⟩ ((4:Nat):Int)],.lit 5 [.agg [.int .i64 3,.int .i64 4,.int .i64 1,.int .i64 0,.int .i64 0]]]=some (.bool true):=by kernel_rfl
 have tu:∀ H n es,Ub H 6 (.uq n false 5 es)=some (.lit 5 es):=fun H n es=>rfl;obtain⟨call,R8⟩:∃ x,x=Da Ug 8:=⟨_,rfl⟩;rw[<- R8] at n1 n2 n4 n5;rw[oi,Pb,<-R8];generalize Oc 0 [⟨1,1,65⟩]=W1 at *;generalize hW2:Oc 1 [⟨2,2,0⟩,⟨1,1,66⟩]=W2 at *;generalize ah ⟨3,([195]:List Int).length,0⟩ ((4:Nat):Int)=W3 at *;have z0:((0:Int)==0)=true:=rfl;have z1:((0:Int) != 0)=false:=rfl;have z2:((([225,128]:List Int).length:Int)==2)=true:=rfl;have fl:∀ n:Int,Nj (i64 n)=true:=fun n=>rfl;have n2':call 87 [.ptr 1 0,.pv (.lit 1 [.int .u8 65,.int .u8 225,.int .u8 128])] A1=some (.mc [.uq 3 false 5 W1,.pv (i64 0)],A2):=n2;have n4':call 87 [.ptr 1 0,.pv (.lit 1 [.int .u8 66,.int .u8 195])] A3=some (.mc [.uq A3.length false 5 W2,.pv (i64 0)],A4):=n4;clear R8 hA1 hA3 h1 h2 n2 n4;simp -implicitDefEqProofs only[SP,WP,sevalprocAttr,xk,htw,n1,e1,z1,l1,hs1,n2',tp2,hh2,fl,hm2,hs2,n4',n5,tu,sm1,sm2,sm3,z0,z2,fa.eq_1,fa.eq_2,List.set,Tc]
section
variable (ss:List Ob)(l:List (List de))
theorem CI:∀ (a b h:List Int),Dl ss l false h (a++b)=((Dl ss l false h a).1++(Dl ss l false (Dl ss l false h a).2.1 b).1,(Dl ss l false (Dl ss l false h a).2.1 b).2)
 | [],b,h=>rfl
 |x::a,b,h=>by rw[fab,Dl,Dl,Fac,taa (by simp),taa (by simp),CI a b];simp only[Oab]
theorem tD:∀ (k:Nat)(es:List Kv),es≠[]->∃ (e:Kv)(p:Nat),(Oc k es)[es.length - 1]? =some (ah e p)/\p+e.size=k+xz es
 |k,[],h=>absurd rfl h
 |k,[e],_=>⟨e,k,rfl,by simp[xz]⟩
 |k,e::f::r,_=>by
  obtain⟨e',p,h1,h2⟩:=tD (k+e.size) (f::r) (by simp);refine⟨e',p,?_,?_⟩
  ·rw[Oc]
   simpa using h1
  ·rw[h2];simp[xz];omega
end
theorem P3{L:List ba}{a b c:ba}(h0:L[0]? =some a)(h1:L[1]? =some b)(h2:L[2]? =some c):L=[a,b,c]++L.drop 3:=by
 match L,h0,h1,h2 with
 |x::y::z::r,h0,h1,h2=>simp at h0 h1 h2;subst h0 h1 h2;rfl
theorem NJ(a b:Int):cp true [.pv (i64 a),.pv (.int .i64 b)]=some (i64 (max a b)):=by
 show some (PV.int .i64 (if b > a then b else a))=some (i64 (max a b));rw[show (if b > a then b else a)=max a b from by split <;> omega]
theorem OI(a b:Int):cp false [.pv (.int .i64 a),.pv (i64 b)]=some (i64 (min a b)):=by
 show some (PV.int .i64 (if b < a then b else a))=some (i64 (min a b));rw[show (if b < a then b else a)=min a b from by split <;> omega]
theorem vQ{B:PV}{bs:List Int}(hB:lk B bs){a n:Nat}(h:a+n<=bs.length):∃ B',(∀ H,ug H 1 (.pv B) (some (a:Int)) (some ((a+n:Nat):Int))=some (.pv B'))/\lk B' ((bs.drop a).take n):=by
 rcases hB.is with⟨rfl,hb⟩ | rfl
 ·have hb0:bs=[]:=by simpa using hb
  subst hb0;simp at h;have ha:a=0:=by omega
  have hn:n=0:=by omega
  subst ha hn;exact⟨.ga,fun H=>rfl,.inl ⟨rfl,rfl⟩,by simp⟩
 ·refine⟨.lit 1 (((bs.drop a).take n).map u8),fun H=> ?_,.inr rfl,fun b hb=>hB.By b (bac (xac hb))⟩
  simp only[ug,aad];rw[if_pos ⟨by decide,trivial,by omega,by omega,by rw[paa];omega⟩,Eaa,Eaa];rw[<- List.map_take,<-List.map_drop,List.drop_take,Eac]
theorem uJ{l:List (List de)}{T:PV}{s:iR}(hq:eo s.buf s.h s.q)(hs:stays l 0 s.q=some s.st)(bad:Int)(n:Nat)(nl:Bool):pq l [We s.buf 8 s.h s.q.length,Lc T bad 0 s.st s.at_ s.Jc s.ya s.fin,.tok 5 n nl] 1 0 T bad s:=by
 refine⟨fun m hm o ho=> ?_,⟨by simp,by simp,by decide⟩,rfl,rfl,hq,hs⟩;have hm:3<=m:=hm;simp only[bab,oac,or_false] at ho;rcases ho with rfl | rfl | rfl
 ·exact As (uB m _)
 ·exact As (by simp[Lc,oO,xE,vj,Zn,show 0 < m by omega])
 ·rfl
theorem pq.set{l:List (List de)}{A:List ba}{d c:Nat}{T:PV}{bad:Int}{s:iR}(h:pq l A d c T bad s){k:Nat}(h1:k≠d)(h2:k≠c){o:ba}(ho:Still [o]):pq l (A.set k o) d c T bad s:=by
 refine⟨fun m hm x hx=> ?_,⟨by rw[uac];exact h.two.ld,by rw[uac];exact h.two.lc,h.two.ne⟩,by rw[Jaa h1];exact h.hd,by rw[Jaa h2];exact h.hc,h.q,h.st⟩;rw[uac] at hm;rcases Nab hx with hx | rfl
 ·exact h.Qv m hm x hx
 ·exact Bo (ho m) _ (by simp)
section
variable {t:Nat->Option Ue}(D:wL t){T:PV}{ss:List Ob}{l:List (List de)}(hT:Uo T ss l)(Ba:Xb ss)(ho:∀ e∈l,sj e)(H7:Df ss)(ha:ig ss=some l)
include D hT Ba ho H7 ha
structure qV(ss:List Ob)(l:List (List de))(bs:List Int)(N k:Nat)(T:PV)(s:iR)(at_:Nat)(all:List Kv)(nl:Bool):Prop where
 is:pq l [We s.buf 8 s.h s.q.length,Lc T 1 0 s.st s.at_ s.Jc s.ya s.fin,.tok 5 all.length nl] 1 0 T 1 s
 fd:Dl ss l false [] (bs.take at_)=(all,s.q,false)
 st:s.ya=false
 fin:s.fin=false
 Jc:s.Jc=at_
 X5:s.at_=xz all
 le:at_<=bs.length
 O6:N < k->at_=bs.length
 nil:nl=true->all=[]
theorem HW{B:PV}{bs:List Int}(hB:lk B bs)(hbs:bs.length<=65536){C:PV}{cs:List Int}(hC:Zh 1 C (cs.map i64))(n9:cs.length * 8<=140737488355328){n:Nat}{s0:iR}(h0:qV ss l bs cs.length 0 T s0 0 [] true)
 {E0:Tr} (g1:E0.get 1= .pv B) (g2:E0.get 2= .pv C) (g9:E0.get 9= .ptr 1 0) (g11:E0.get 11= .uq 2 true 5 []) (g12:E0.get 12= .pv (i64 0)) (g13:E0.get 13= .pv (i64 0)):
 qd (fun r=>r.1.stop=true/\∃ (E:Tr)(s:iR)(all:List Kv)(nl:Bool),r=(.exit 0,⟨E,[We s.buf 8 s.h s.q.length,Lc T 1 0 s.st s.at_ s.Jc s.ya s.fin,.tok 5 all.length nl]⟩)/\E.get 9= .ptr 1 0/\E.get 11= .uq 2 nl 5 (Oc 0 all)/\qV ss l bs cs.length (cs.length+1) T s bs.length all nl)
  (oa (Da t (n+5)) (.loop [1,2,9,11,12,13] Zd) ⟨E0,[We s0.buf 8 s0.h s0.q.length,Lc T 1 0 s0.st s0.at_ s0.Jc s0.ya s0.fin,.tok 5 0 true]⟩):=by
 have lB:=hB.Tb
 have lC:=fun H=>hC.len H
 simp only[paa] at lC;refine xo (σ:=Nat×iR×Nat×List Kv×Bool) (fun x=>[(1,.pv B),(2,.pv C),(9,.ptr 1 0),(11,.uq 2 x.2.2.2.2 5 (Oc 0 x.2.2.2.1)),(12,.pv (i64 x.2.2.1)),(13,.pv (i64 x.1))])
  (fun x=>[We x.2.1.buf 8 x.2.1.h x.2.1.q.length,Lc T 1 0 x.2.1.st x.2.1.at_ x.2.1.Jc x.2.1.ya x.2.1.fin,.tok 5 x.2.2.2.1.length x.2.2.2.2])
  (fun k x=>x.1=k/\qV ss l bs cs.length k T x.2.1 x.2.2.1 x.2.2.2.1 x.2.2.2.2) (cs.length+1) (by unfold ua;omega) (fun _=>rfl) ?_ ?_ ?_ ?_
 ·rintro k x ⟨_,hp⟩
  exact⟨by simp[vj,Zn,wz],fun o ho'=>hp.is.Qv _ (by simp) o ho',rfl⟩
 ·exact⟨(0,s0,0,[],true),⟨g1,g2,g9,g11,g12,g13,trivial⟩,rfl,rfl,h0⟩
 ·rintro _ ⟨k,s,at_,all,nl⟩ E hi ⟨rfl,hp⟩ ⟨g1,g2,g9,g11,g12,g13,_⟩
  simp only at hi hp g1 g2 g9 g11 g12 g13;obtain⟨m,hm⟩:∃ m:Nat,m=if h:k < cs.length then min (cs[k]).toNat (bs.length - at_) else bs.length - at_:=⟨_,rfl⟩
  have hle:=hp.le
  have hml:at_+m<=bs.length:=by rw[hm];split <;> omega
  obtain⟨B',hsl,hB'⟩:=vQ hB hml;obtain⟨pc,hpc⟩:∃ pc,pc=(bs.drop at_).take m:=⟨_,rfl⟩
  rw[<- hpc] at hB';have V7:pc.length=m:=by rw[hpc,Lab,Pab];omega
  obtain⟨H0,hH0⟩:∃ H0,H0=[We s.buf 8 s.h s.q.length,Lc T 1 0 s.st s.at_ s.Jc s.ya s.fin,.tok 5 all.length nl]:=⟨_,rfl⟩;have hIs:=hp.is
  rw[<- hH0] at hIs;have e9:H0.length=3:=by rw[hH0];rfl
  have hI1:=hIs.app (Still.tok 1 m false)
  have ap1:Cb (H0++[.tok 1 0 false]) false .uq 1 false 1 (.uq 3 false 1 []) (.pv B')=some (.uq 3 false 1 (pc.map u8),H0++[.tok 1 m false]):=by rw[xH hB'.is (n:=0) (nl':=false) (by rw[Paa (by omega),e9];rfl) rfl (by unfold eb;simp;omega)];rw[Xab _ _ (by omega),e9,cab,paa,V7];simp
  obtain⟨A',s',nl',out,R8,hI',hk,hlt,hfd,Y8,sal,Q7,Y7⟩:=zA (n:=n) D hT Ba ho H7 ha hI1 hp.fin hp.st (mI.uq (bs:=pc) hB'.By (id:=3) false (by simp[e9])) (by rw[hp.Jc];omega) (by rw[hp.Jc,V7];omega) (by
   rw[hp.X5];have:=(Nv ss l _ (bs.take at_) (waa _)).2.1
   have hf:=(Hz ss l (bs.take at_) [] 0 rfl).1
   rw[hp.fd,cab] at hf;have h1:all=(nf ss l (bs.take at_)).1:=congrArg (fun x=>x.1) hf
   rw[<- h1,Lab] at this;show (all.map (·.size)).sum<=_
   omega)
  have uai:Dl ss l false s.q pc=(out,s'.q,s'.ya):=hfd
  have Z7:bs.take at_++pc=bs.take (at_+m):=by rw[hpc,List.take_add]
  have hfa:=CI ss l (bs.take at_) pc [];rw[hp.fd] at hfa;dsimp only at hfa;rw[uai,Z7] at hfa;dsimp only at hfa;have hfc:=(Hz ss l (bs.take (at_+m)) [] 0 rfl).1
  rw[cab,hfa] at hfc;have c1:all++out=(nf ss l (bs.take (at_+m))).1:=congrArg (fun x=>x.1) hfc
  have c2:s'.q=(nf ss l (bs.take (at_+m))).2:=congrArg (fun x=>x.2.1) hfc
  have c3:s'.ya=false:=congrArg (fun x=>x.2.2) hfc
  obtain⟨_,k2,_,_,k5⟩:=Nv ss l _ (bs.take (at_+m)) (waa _);rw[<- c1,<-c2,Lab,Nat.min_eq_left hml] at k2 k5;have k2:xz (all++out)+s'.q.length=at_+m:=k2
  have hq8:=bF Ba H7 ha hI'.q.By hI'.st
  rw[Aaa] at k5;have hl4:(H0++[ba.tok 1 m false]).length=4:=by simp[e9]
  rw[hl4] at R8;have h2t:A'[2]? =some (.tok 5 all.length nl):=by rw[hk.get 2 (by rw[hl4];decide) (by decide) (by decide),gaa (by rw[e9];decide),hH0];rfl
  have E7:Oc 0 all++Oc s.at_ out=Oc 0 (all++out):=by rw[IB,hp.X5,eab];rfl
  obtain⟨nl2,qad⟩:∃ b,b=(nl&&(Oc s.at_ out).isEmpty):=⟨_,rfl⟩;obtain⟨H2,Z9⟩:∃ H2,H2=A'.set 2 (.tok 5 (all++out).length nl2):=⟨_,rfl⟩
  have ap2:Cb A' false .uq 5 true 40 (.uq 2 nl 5 (Oc 0 all)) (.uq 4 nl' 5 (Oc s.at_ out))=some (.uq 2 nl2 5 (Oc 0 (all++out)),H2):=by simp only[Cb,Baa,if_false,h2t,Kf,if_true,Daa];rw[if_pos ⟨trivial,trivial,(Xf 0 all).symm,by unfold eb;rw[Xf,Xf];omega⟩,E7,Z9,qad,Xf,Xf,Aaa]
  have hI2:pq l H2 1 0 T 1 s':=by rw[Z9];exact hI'.set (by decide) (by decide) (Still.tok _ _ _)
  obtain⟨row,tp,gh,gt,gr,gs⟩:=zF hI2;have ual:H2=[We s'.buf 8 s'.h s'.q.length,Lc T 1 0 s'.st s'.at_ s'.Jc s'.ya s'.fin,.tok 5 (all++out).length nl2]++H2.drop 3:=P3 hI2.hc hI2.hd (by rw[Z9];exact Qaa (by rw[hl4] at hlt;omega))
  have T7:qV ss l bs cs.length (k+1) T s' (at_+m) (all++out) nl2:=by
   refine⟨uJ hI'.q hI'.st 1 _ _,by rw[hfa,c3],c3,Q7,by rw[sal,hp.Jc,V7];omega,by rw[Y8,hp.X5,pK],hml,fun h=> ?_,fun h=> ?_⟩
   ·rw[hm,dif_neg (by omega)];omega
   ·rw[qad,daa] at h
    have h3:out=[]:=yaa (by rw[<- Xf s.at_ out,List.isEmpty_iff.1 h.2];rfl);rw[hp.nil h.1,h3];rfl
  have vai:∀ E2:Tr,E2.get 1= .pv B->E2.get 2= .pv C->E2.get 9= .ptr 1 0->E2.get 11= .uq 2 nl2 5 (Oc 0 (all++out))->E2.get 12= .pv (i64 (at_+m:Nat))->E2.get 13= .pv (i64 (k+1:Nat))->
   ∃ (x:Nat×iR×Nat×List Kv×Bool)(T':List ba),Has E2 [(1,.pv B),(2,.pv C),(9,.ptr 1 0),(11,.uq 2 x.2.2.2.2 5 (Oc 0 x.2.2.2.1)),(12,.pv (i64 x.2.2.1)),(13,.pv (i64 x.1))]/\H2=[We x.2.1.buf 8 x.2.1.h x.2.1.q.length,Lc T 1 0 x.2.1.st x.2.1.at_ x.2.1.Jc x.2.1.ya x.2.1.fin,.tok 5 x.2.2.2.1.length x.2.2.2.2]++T'/\(x.1=k+1/\qV ss l bs cs.length (k+1) T x.2.1 x.2.2.1 x.2.2.2.1 x.2.2.2.2):=fun E2 q1 q2 q9 q11 q12 q13=>
   ⟨(k+1,s',at_+m,all++out,nl2),H2.drop 3,⟨q1,q2,q9,q11,q12,q13,trivial⟩,ual,rfl,T7⟩
  have e1:decide ((k:Int)<=(cs.length:Int))=true:=Ea (by omega);have w41:IntKind.i64.wrap ((bs.length:Int) - (at_:Int))=((bs.length - at_:Nat):Int):=(Aa (by omega)).trans (by omega)
  have w60:IntKind.i64.wrap ((at_:Int)+(m:Int))=((at_+m:Nat):Int):=(Aa (by omega)).trans (by omega)
  have t1:IntKind.i64.wrap ((k:Int)+1)=((k+1:Nat):Int):=sg (by omega)
  have lu:∀ H,Tb H 0 (.uq 2 nl2 5 (Oc 0 (all++out)))=some (all++out).length:=fun H=>by rw[RE,Xf]
  have wq:IntKind.i64.wrap (((at_+m:Nat):Int) - ((xz (all++out):Nat):Int))=(s'.q.length:Int):=(Aa (by omega)).trans (by omega)
  have x1:((s'.q.length:Int) != (s'.q.length:Int))=false:=by simp
  have x2:decide ((s'.q.length:Int)>=8)=false:=Ga (by omega);have x3:decide ((8:Int) > 64)=false:=rfl;have x4:decide ((8:Int) < (s'.q.length:Int))=false:=Ga (by omega);have z1:((0:Int) != 0)=false:=rfl;have fl:∀ n:Int,Nj (i64 n)=true:=fun n=>rfl;rw[<- hH0];clear hH0 Z9 hI1 hIs hI' hI2 hfd uai hfa hfc;generalize Da t (n+5)=call at *;generalize hQ:RH _ _ _ _=Q;have pae:∀ E2:Tr,E2.get 1= .pv B->E2.get 2= .pv C->E2.get 9= .ptr 1 0->E2.get 11= .uq 2 nl2 5 (Oc 0 (all++out))->E2.get 12= .pv (i64 (at_+m:Nat))->E2.get 13= .pv (i64 (k+1:Nat))->Q (.norm,⟨E2,H2⟩):=by subst hQ;exact vai
  clear hQ vai
  by_cases hlk:k < cs.length
  ·have e2:decide ((k:Int) < (cs.length:Int))=true:=Ea (by omega)
   have a1:∀ H,ta H 1 (.pv C) (k:Int)=some (.pv (.rp [i64 cs[k]] 0)):=fun H=>by rw[hC.lit (i:=k) (by rw[paa];exact hlk)];simp only[ta];rw[if_pos ⟨trivial,by unfold Ia;rw[paa];omega⟩,Eaa,Faa,caa hlk];rfl
   rw[dif_pos hlk] at hm;have hmi:min (max cs[k] 0) ((bs.length - at_:Nat):Int)=(m:Int):=by rw[hm];omega
   generalize cs[k]=ck at *
   by_cases I7:(all++out)=[]
   ·have e3:decide (((all++out).length:Int) > 0)=false:=Ga (by rw[I7];decide)
    have wq0:IntKind.i64.wrap (((at_+m:Nat):Int) - 0)=(s'.q.length:Int):=by rw[I7] at wq;exact wq
    simp -implicitDefEqProofs only[SP,WP,sevalprocAttr,Zd,g1,g2,g9,g11,g12,g13,lB,lC,e1,e2,w41,e9,w60,hsl,ap1,R8,ap2,lu,z1,tp,gh,gr,fl,x1,x2,x3,x4,t1,e3,wq0,a1,Wa,NJ,OI,hmi];exact pae _ (by simp[Tr.aa,g1]) (by simp[Tr.aa,g2]) (by simp[Tr.aa,g9]) (by simp[Tr.aa]) (by simp[Tr.aa]) (by simp[Tr.aa])
   ·have e3:decide (((all++out).length:Int) > 0)=true:=Ea (by have:=Zab.2 I7;omega)
    obtain⟨e,p,p1,p2⟩:=tD 0 (all++out) I7;have wl:IntKind.i64.wrap (((all++out).length:Int) - 1)=(((all++out).length - 1:Nat):Int):=(Aa (by rw[Aaa];omega)).trans (by have:=Zab.2 I7;omega)
    have ia:∀ H,ta H 5 (.uq 2 nl2 5 (Oc 0 (all++out))) (((all++out).length - 1:Nat):Int)=some (.pv (.rp (Qo e.kind p e.size e.u) 0)):=fun H=>by simp only[ta];rw[if_pos ⟨trivial,by unfold Ia;rw[Xf];have:=Zab.2 I7;omega⟩,Eaa,p1];rfl
    have i1:∀ H,place H 1 (.pv (.rp (Qo e.kind p e.size e.u) 0))=some (.pv (.rp (Qo e.kind p e.size e.u) 1)):=fun H=>rfl;have i2:∀ H,place H 2 (.pv (.rp (Qo e.kind p e.size e.u) 0))=some (.pv (.rp (Qo e.kind p e.size e.u) 2)):=fun H=>rfl;have j1:∀ H,pa H false 1 (.pv (.rp (Qo e.kind p e.size e.u) 1))=some (.pv (i64 p)):=fun H=>rfl;have j2:∀ H,pa H false 1 (.pv (.rp (Qo e.kind p e.size e.u) 2))=some (.pv (i64 e.size)):=fun H=>rfl;have pw:IntKind.i64.wrap ((p:Int)+(e.size:Int))=((xz (all++out):Nat):Int):=(Aa (by omega)).trans (by omega)
    generalize Oc 0 (all++out)=W at *;generalize Qo e.kind p e.size e.u=Ro at *
    simp -implicitDefEqProofs only[SP,WP,sevalprocAttr,Zd,g1,g2,g9,g11,g12,g13,lB,lC,e1,e2,w41,e9,w60,hsl,ap1,R8,ap2,lu,z1,tp,gh,gr,fl,x1,x2,x3,x4,t1,e3,wl,ia,i1,i2,j1,j2,pw,wq,a1,Wa,NJ,OI,hmi];exact pae _ (by simp[Tr.aa,g1]) (by simp[Tr.aa,g2]) (by simp[Tr.aa,g9]) (by simp[Tr.aa]) (by simp[Tr.aa]) (by simp[Tr.aa])
  ·have e2:decide ((k:Int) < (cs.length:Int))=false:=Ga (by omega)
   rw[dif_neg hlk] at hm;rw[<- hm] at w41
   by_cases I7:(all++out)=[]
   ·have e3:decide (((all++out).length:Int) > 0)=false:=Ga (by rw[I7];decide)
    have wq0:IntKind.i64.wrap (((at_+m:Nat):Int) - 0)=(s'.q.length:Int):=by rw[I7] at wq;exact wq
    simp -implicitDefEqProofs only[SP,WP,sevalprocAttr,Zd,g1,g2,g9,g11,g12,g13,lB,lC,e1,e2,w41,e9,w60,hsl,ap1,R8,ap2,lu,z1,tp,gh,gr,fl,x1,x2,x3,x4,t1,e3,wq0];exact pae _ (by simp[Tr.aa,g1]) (by simp[Tr.aa,g2]) (by simp[Tr.aa,g9]) (by simp[Tr.aa]) (by simp[Tr.aa]) (by simp[Tr.aa])
   ·have e3:decide (((all++out).length:Int) > 0)=true:=Ea (by have:=Zab.2 I7;omega)
    obtain⟨e,p,p1,p2⟩:=tD 0 (all++out) I7;have wl:IntKind.i64.wrap (((all++out).length:Int) - 1)=(((all++out).length - 1:Nat):Int):=(Aa (by rw[Aaa];omega)).trans (by have:=Zab.2 I7;omega)
    have ia:∀ H,ta H 5 (.uq 2 nl2 5 (Oc 0 (all++out))) (((all++out).length - 1:Nat):Int)=some (.pv (.rp (Qo e.kind p e.size e.u) 0)):=fun H=>by simp only[ta];rw[if_pos ⟨trivial,by unfold Ia;rw[Xf];have:=Zab.2 I7;omega⟩,Eaa,p1];rfl
    have i1:∀ H,place H 1 (.pv (.rp (Qo e.kind p e.size e.u) 0))=some (.pv (.rp (Qo e.kind p e.size e.u) 1)):=fun H=>rfl;have i2:∀ H,place H 2 (.pv (.rp (Qo e.kind p e.size e.u) 0))=some (.pv (.rp (Qo e.kind p e.size e.u) 2)):=fun H=>rfl;have j1:∀ H,pa H false 1 (.pv (.rp (Qo e.kind p e.size e.u) 1))=some (.pv (i64 p)):=fun H=>rfl;have j2:∀ H,pa H false 1 (.pv (.rp (Qo e.kind p e.size e.u) 2))=some (.pv (i64 e.size)):=fun H=>rfl;have pw:IntKind.i64.wrap ((p:Int)+(e.size:Int))=((xz (all++out):Nat):Int):=(Aa (by omega)).trans (by omega)
    generalize Oc 0 (all++out)=W at *;generalize Qo e.kind p e.size e.u=Ro at *
    simp -implicitDefEqProofs only[SP,WP,sevalprocAttr,Zd,g1,g2,g9,g11,g12,g13,lB,lC,e1,e2,w41,e9,w60,hsl,ap1,R8,ap2,lu,z1,tp,gh,gr,fl,x1,x2,x3,x4,t1,e3,wl,ia,i1,i2,j1,j2,pw,wq];exact pae _ (by simp[Tr.aa,g1]) (by simp[Tr.aa,g2]) (by simp[Tr.aa,g9]) (by simp[Tr.aa]) (by simp[Tr.aa]) (by simp[Tr.aa])
 ·rintro⟨k,s,at_,all,nl⟩ E ⟨hk,hp⟩ ⟨g1,g2,g9,g11,g12,g13,_⟩
  simp only at hk hp g1 g2 g9 g11 g12 g13 ⊢;subst hk;have Y8:=hp.O6 (Uad _)
  rw[Y8] at hp;have e1:decide (((cs.length+1:Nat):Int)<=(cs.length:Int))=false:=Ga (by omega);generalize hQ:(fun r:Ex×St=>r.1.stop=true/\_)=Q;simp -implicitDefEqProofs only[SX,sevalprocAttr,Zd,g2,g13,lC,e1];subst hQ;exact⟨rfl,_,s,all,nl,rfl,by simp[Tr.aa,g9],by simp[Tr.aa,g11],hp⟩
end
def BV(x:Int):Int->List (Int×Int)->Int
 |_,[]=> -1
 |n,p::r=>if p.1<=x/\x<=p.2 then n+x - p.1 else BV x (n+(p.2 - p.1+1)) r
theorem KR{top x:Int}:∀ {l:List (Int×Int)}{last n:Int},Pa top last l=true->x<=last->BV x n l= -1
 | [],_,_,_,_=>rfl
 |p::r,last,n,h,hx=>by obtain⟨h1,h2,h3,h4,h5⟩:=Uc h;rw[BV,taa (by omega)];exact KR h5 (by omega)
theorem JO{top x:Int}:∀ {l:List (Int×Int)}{last n:Int},Pa top last l=true->BV x n l=if (Md x n l).2=true then (Md x n l).1 else -1
 | [],_,_,_=>rfl
 |p::r,last,n,h=>by
  obtain⟨h1,h2,h3,h4,h5⟩:=Uc h;rw[BV,Md]
  by_cases c:x < p.1
  ·rw[if_pos c,taa (by omega),KR h5 (by omega)];rfl
  ·rw[taa c]
   by_cases c2:x<=p.2
   ·rw[if_pos c2,if_pos ⟨by omega,c2⟩];rfl
   ·rw[taa c2,taa (by omega)]
    exact JO h5
theorem bM{v:PV}{l:List (Int×Int)}(hv:Zh 2 v (ae l)){i:Nat}(hi:i < l.length):(∀ H,ta H 2 (.pv v) (i:Int)=some (.pv (.rp [i64 l[i].1,i64 l[i].2] 0))):=fun H=>by
 rw[hv.lit (i:=i) (by simpa using hi)];simp only[ta];rw[if_pos ⟨trivial,by unfold Ia;simp;omega⟩,Eaa,Hr hi];rfl
theorem aN{v:PV}{l:List (Int×Int)}(hv:Zh 2 v (ae l))(hw:l.length<=maxLen)(M7:Pa 255 (-2) l=true){x:Int}(hx0:0<=x)(hx1:x<=255):si [v,i64 x]=some (i64 (BV x 0 l)):=by
 have lv:=hv.len
 simp only[ae,paa] at lv;have D7:=fun (E:Tr)(g0:E.get 0= .pv v)(g1:E.get 1= .pv (i64 x))(g5:E.get 5= .pv (i64 0))(g6:E.get 6= .pv (i64 0))=>
  xo (call:=Da (fun _=>none) 8) (b:=te) (live:=[0,1,5,6]) (E0:=E) (H0:=[]) (Q:=fun r=>(∃ E,r=(.exit 0,⟨E,[]⟩)/\BV x 0 l= -1)\/∃ E,r=(.ret,⟨E,[]⟩)/\E.get 4= .pv (i64 (BV x 0 l)))
   (fun y:Nat×Int=>[(0,.pv v),(1,.pv (i64 x)),(5,.pv (i64 y.2)),(6,.pv (i64 y.1))]) (fun _=>[]) (fun i y=>y.1=i/\BV x 0 l=BV x y.2 (l.drop i)/\∃ last,Pa 255 last (l.drop i)=true/\0<=y.2/\y.2<=max 0 (last+1)/\last<=255) l.length (by unfold ua;unfold maxLen at hw;omega) (fun _=>rfl)
   (fun i y _=>⟨by simp[vj],Bo rfl,rfl⟩) ⟨(0,0),⟨g0,g1,g5,g6,trivial⟩,rfl,rfl,rfl,-2,M7,by dsimp only;omega,by dsimp only;omega,by omega⟩
   (by
    rintro _ ⟨i,n⟩ E hi ⟨rfl,hr,last,hva,hn0,hn1,J9⟩ ⟨g0,g1,g5,g6,_⟩;dsimp only at *;have hd:l.drop i=l[i]::l.drop (i+1):=Waa hi
    rw[hd] at hr hva;obtain⟨h1,h2,h3,h4,h5⟩:=Uc hva;rw[BV] at hr;have a1:=bM hv hi;generalize l[i]=p at *;have pl0:∀ H,place H 0 (.pv (.rp [i64 p.1,i64 p.2] 0))=some (.pv (.rp [i64 p.1,i64 p.2] 0)):=fun H=>rfl;have pl1:∀ H,place H 1 (.pv (.rp [i64 p.1,i64 p.2] 0))=some (.pv (.rp [i64 p.1,i64 p.2] 1)):=fun H=>rfl;have ld0:∀ H,pa H false 1 (.pv (.rp [i64 p.1,i64 p.2] 0))=some (.pv (i64 p.1)):=fun H=>rfl;have ld1:∀ H,pa H false 1 (.pv (.rp [i64 p.1,i64 p.2] 1))=some (.pv (i64 p.2)):=fun H=>rfl;have e1:decide ((i:Int) < (l.length:Int))=true:=Ea (by omega);have t1:IntKind.i64.wrap ((i:Int)+1)=((i+1:Nat):Int):=sg (by unfold maxLen at hw;omega)
    by_cases c:p.1<=x
    ·have d1:decide (x>=p.1)=true:=Ea c
     by_cases c2:x<=p.2
     ·have d2:decide (x<=p.2)=true:=Ea c2
      have t2:IntKind.i64.wrap (n+x)=n+x:=Aa (by omega)
      have t3:IntKind.i64.wrap (n+x - p.1)=n+x - p.1:=Aa (by omega)
      rw[if_pos ⟨c,c2⟩] at hr;generalize hQ:RH _ _ _ _=Q;simp -implicitDefEqProofs only[SX,sevalprocAttr,te,g0,g1,g5,g6,lv,e1,a1,pl0,pl1,ld0,ld1,d1,d2,t2,t3];subst hQ;exact .inr ⟨_,rfl,by simp[Tr.aa,hr]⟩
     ·have d2:decide (x<=p.2)=false:=Ga c2
      have t3:IntKind.i64.wrap (p.2 - p.1)=p.2 - p.1:=Aa (by omega)
      have t4:IntKind.i64.wrap (p.2 - p.1+1)=p.2 - p.1+1:=Aa (by omega)
      have t5:IntKind.i64.wrap (n+(p.2 - p.1+1))=n+(p.2 - p.1+1):=Aa (by omega)
      rw[taa (fun h=>c2 h.2)] at hr;generalize hQ:RH _ _ _ _=Q;simp -implicitDefEqProofs only[SX,sevalprocAttr,te,g0,g1,g5,g6,lv,e1,a1,pl0,pl1,ld0,ld1,d1,d2,t1,t3,t4,t5];subst hQ;exact⟨(i+1,n+(p.2 - p.1+1)),[],by simp[Has,Tr.aa,g0,g1],rfl,rfl,hr,p.2,h5,by dsimp only;omega,by dsimp only;omega,by omega⟩
    ·have d1:decide (x>=p.1)=false:=Ga c
     have t3:IntKind.i64.wrap (p.2 - p.1)=p.2 - p.1:=Aa (by omega)
     have t4:IntKind.i64.wrap (p.2 - p.1+1)=p.2 - p.1+1:=Aa (by omega)
     have t5:IntKind.i64.wrap (n+(p.2 - p.1+1))=n+(p.2 - p.1+1):=Aa (by omega)
     rw[taa (fun h=>c h.1)] at hr;generalize hQ:RH _ _ _ _=Q;simp -implicitDefEqProofs only[SX,sevalprocAttr,te,g0,g1,g5,g6,lv,e1,a1,pl0,pl1,ld0,ld1,d1,t1,t3,t4,t5];subst hQ;exact⟨(i+1,n+(p.2 - p.1+1)),[],by simp[Has,Tr.aa,g0,g1],rfl,rfl,hr,p.2,h5,by dsimp only;omega,by dsimp only;omega,by omega⟩)
   (by rintro⟨i,n⟩ E ⟨h,hr,_⟩ ⟨g0,g1,g5,g6,_⟩;dsimp only at h hr g5 g6;subst h;rw[Hab] at hr;have e1:decide ((l.length:Int) < (l.length:Int))=false:=Ga (by omega);generalize hQ:(fun r:Ex×St=>r.1.stop=true/\_)=Q;simp -implicitDefEqProofs only[SX,sevalprocAttr,te,g0,g6,lv,e1];subst hQ;exact⟨rfl,.inl ⟨_,rfl,hr⟩⟩)
 apply bl;generalize hQ:(fun y=>y=PV.int IntKind.i64 (BV x 0 l))=Q;simp -implicitDefEqProofs only[si,SX,sevalprocAttr,Ak];refine wa (D7 _ (by simp[Tr.aa]) (by simp[Tr.aa]) (by simp[Tr.aa]) (by simp[Tr.aa])) ?_;rintro r ⟨_,h⟩;rcases h with⟨E,rfl,h⟩ | ⟨E,rfl,h⟩
 ·rw[h] at hQ
  simp -implicitDefEqProofs only[SX,sevalprocAttr];subst hQ;rfl
 ·simp -implicitDefEqProofs only[SX,sevalprocAttr,h]
  subst hQ;rfl
theorem NP{v:PV}{l:List (Int×Int)}(hv:Zh 2 v (ae l))(hw:l.length<=maxLen)(M7:Pa 255 (-2) l=true):ej [v]=some (i64 (ib 0 l)):=by
 have lv:=hv.len
 simp only[ae,paa] at lv;have D7:=fun (E:Tr)(g0:E.get 0= .pv v)(g3:E.get 3= .pv (i64 0))(g4:E.get 4= .pv (i64 0))=>
  xo (call:=Da (fun _=>none) 8) (b:=th) (live:=[0,3,4]) (E0:=E) (H0:=[]) (Q:=fun r=>∃ E,r=(.exit 0,⟨E,[]⟩)/\E.get 3= .pv (i64 (ib 0 l)))
   (fun y:Nat×Int=>[(0,.pv v),(3,.pv (i64 y.2)),(4,.pv (i64 y.1))]) (fun _=>[]) (fun i y=>y.1=i/\ib 0 l=ib y.2 (l.drop i)/\∃ last,Pa 255 last (l.drop i)=true/\0<=y.2/\y.2<=max 0 (last+1)/\last<=255) l.length (by unfold ua;unfold maxLen at hw;omega) (fun _=>rfl)
   (fun i y _=>⟨by simp[vj],Bo rfl,rfl⟩) ⟨(0,0),⟨g0,g3,g4,trivial⟩,rfl,rfl,rfl,-2,M7,by dsimp only;omega,by dsimp only;omega,by omega⟩
   (by
    rintro _ ⟨i,n⟩ E hi ⟨rfl,hr,last,hva,hn0,hn1,J9⟩ ⟨g0,g3,g4,_⟩;dsimp only at *;have hd:l.drop i=l[i]::l.drop (i+1):=Waa hi
    rw[hd] at hr hva;obtain⟨h1,h2,h3,h4,h5⟩:=Uc hva;rw[ib] at hr;have a1:=bM hv hi;generalize l[i]=p at *;have pl0:∀ H,place H 0 (.pv (.rp [i64 p.1,i64 p.2] 0))=some (.pv (.rp [i64 p.1,i64 p.2] 0)):=fun H=>rfl;have pl1:∀ H,place H 1 (.pv (.rp [i64 p.1,i64 p.2] 0))=some (.pv (.rp [i64 p.1,i64 p.2] 1)):=fun H=>rfl;have ld0:∀ H,pa H false 1 (.pv (.rp [i64 p.1,i64 p.2] 0))=some (.pv (i64 p.1)):=fun H=>rfl;have ld1:∀ H,pa H false 1 (.pv (.rp [i64 p.1,i64 p.2] 1))=some (.pv (i64 p.2)):=fun H=>rfl;have e1:decide ((i:Int) < (l.length:Int))=true:=Ea (by omega);have t1:IntKind.i64.wrap ((i:Int)+1)=((i+1:Nat):Int):=sg (by unfold maxLen at hw;omega)
    have t3:IntKind.i64.wrap (p.2 - p.1)=p.2 - p.1:=Aa (by omega)
    have t4:IntKind.i64.wrap (p.2 - p.1+1)=p.2 - p.1+1:=Aa (by omega)
    have t5:IntKind.i64.wrap (n+(p.2 - p.1+1))=n+(p.2 - p.1+1):=Aa (by omega)
    generalize hQ:RH _ _ _ _=Q;simp -implicitDefEqProofs only[SX,sevalprocAttr,th,g0,g3,g4,lv,e1,a1,pl0,pl1,ld0,ld1,t1,t3,t4,t5];subst hQ;exact⟨(i+1,n+(p.2 - p.1+1)),[],by simp[Has,Tr.aa,g0],rfl,rfl,hr,p.2,h5,by dsimp only;omega,by dsimp only;omega,by omega⟩)
   (by rintro⟨i,n⟩ E ⟨h,hr,_⟩ ⟨g0,g3,g4,_⟩;dsimp only at h hr g3 g4;subst h;rw[Hab] at hr;have e1:decide ((l.length:Int) < (l.length:Int))=false:=Ga (by omega);generalize hQ:(fun r:Ex×St=>r.1.stop=true/\_)=Q;simp -implicitDefEqProofs only[SX,sevalprocAttr,th,g0,g4,lv,e1];subst hQ;exact⟨rfl,_,rfl,by simp[Tr.aa,g3,hr,ib]⟩)
 apply bl;generalize hQ:(fun y=>y=PV.int IntKind.i64 (ib 0 l))=Q;simp -implicitDefEqProofs only[ej,SX,sevalprocAttr,Yk];refine wa (D7 _ (by simp[Tr.aa]) (by simp[Tr.aa]) (by simp[Tr.aa])) ?_;rintro r ⟨_,E,rfl,h⟩;simp -implicitDefEqProofs only[SX,sevalprocAttr,h];subst hQ;rfl
def KD:ba:= .box [.pv (i64 0),.pv (i64 0),.pv (i64 0),.pv (i64 0),.pv (i64 0)]
abbrev US(P:PV)(f:Int):List ba:=[KD,.box [.pv P,.pv (i64 f)]]
abbrev vM(B C:PV)(a m i:Int)(y:Nat×Int):List (Nat×AV):=[(1,.pv B),(2,.pv (i64 a)),(3,.pv C),(6,.ptr 0 0),(7,.pv (i64 m)),(8,.pv (i64 i)),(9,.ptr 1 0),(10,.pv (i64 y.1)),(11,.pv (i64 y.2))]
theorem cX{P C:PV}{ps:List PV}{s:Ob}(hP:xf P s.parts ps)(Ba:Be s){B:PV}{bs:List Int}(hB:lk B bs)(hw:bs.length<=maxLen){a:Nat}(ha:a<=bs.length){m i:Int}{E:Tr}(hE:Has E (vM B C a m i (0,0))):
 qd (fun r=>r.1.stop=true/\∃ E',r=(.exit 2,⟨E',US P s.first⟩)/\Has E' (vM B C a m i (iu s.parts (bs.drop a) 0 0))) (oa (Da (fun _=>none) 8) (.loop [1,2,3,6,7,8,9,10,11] bd) ⟨E,US P s.first⟩):=by
 have lP:=hP.Tb
 have lB:=hB.Tb
 have h8:=Ba.hi
 have hpr:=Ba.prod.2
 have q0:place (US P s.first) 0 (.ptr 1 0)=some (.ptr 1 0):=rfl;have r0:pa (US P s.first) false 1 (.ptr 1 0)=some (.pv P):=rfl;have r1:∀ H (x:PV),pa H false 1 (.pv (.rp [x] 0))=some (.pv x):=fun H x=>rfl;refine xo (call:=Da (fun _=>none) 8) (b:=bd) (live:=[1,2,3,6,7,8,9,10,11]) (E0:=E) (H0:=US P s.first) (Q:=fun r=>∃ E',r=(.exit 2,⟨E',US P s.first⟩)/\Has E' (vM B C a m i (iu s.parts (bs.drop a) 0 0)))
  (vM B C a m i) (fun _=>US P s.first) (fun n y=>y.1=n/\a+n<=bs.length/\iu s.parts (bs.drop a) 0 0=iu (s.parts.drop n) (bs.drop (a+n)) n y.2/\0<=y.2/\(y.2+1) * Na (s.parts.drop n)<=Na s.parts) s.parts.length (by unfold ua;omega) (fun _=>rfl)
  (fun n y _=>⟨by simp[vj,Zn],Bo (by simp[KD,xE,vj]),rfl⟩) ⟨(0,0),hE,rfl,rfl,by omega,rfl,Kac _,by simp⟩ ?_ ?_
 ·rintro _ ⟨n,k⟩ E hi ⟨rfl,han,hr,hk0,hk1⟩ ⟨g1,g2,g3,g6,g7,g8,g9,g10,g11,_⟩
  dsimp only at *;have e1:decide ((n:Int) < (s.parts.length:Int))=true:=Ea (by omega);have t0:IntKind.i64.wrap ((a:Int)+(n:Int))=((a+n:Nat):Int):=(Aa (by unfold maxLen at hw;omega)).trans (by omega)
  have hd:s.parts.drop n=s.parts[n]::s.parts.drop (n+1):=Waa hi
  by_cases hlen:a+n < bs.length
  ·have e2:decide (((a+n:Nat):Int) < (bs.length:Int))=true:=Ea (by omega)
   obtain⟨v,hv,S8,_⟩:=hP.Pd hi []
   have a2:=hP.dy hv
   have a3:=hB.Pd hlen
   have J8:=Ba.parts s.parts[n] (saa hi)
   have hbr:=hB.By bs[a+n] (saa hlen)
   have hdb:bs.drop (a+n)=bs[a+n]::bs.drop (a+n+1):=Waa hlen
   have hdg:=aN S8.is (by have:=S8.sz;unfold maxLen;omega) J8.2 hbr.1 hbr.2
   have K7:=NP S8.is (by have:=S8.sz;unfold maxLen;omega) J8.2
   rw[JO J8.2] at hdg;have hrb:=gn (x:=bs[a+n]) (n:=0) J8.2
   have hs:=Xg J8;rw[hd,Na] at hk1;rw[hd,hdb,iu] at hr;have j8:=zf (ls:=s.parts.drop (n+1)) fun x hx=>Ba.parts x (bac hx)
   generalize Na (s.parts.drop (n+1))=pd at *;generalize s.parts[n]=l at *
   generalize bs[a+n]=x at *;have t3:IntKind.i64.wrap x=x:=Aa (by omega)
   obtain⟨⟨d,is⟩,hrk⟩:∃ r,r=Md x 0 l:=⟨_,rfl⟩;rw[<- hrk] at hdg hr hrb;cases is with
   |false=>simp only[Baa,if_false] at hr hdg;have e3:decide ((-1:Int) < 0)=true:=rfl;generalize hQ:RH _ _ _ _=Q;simp -implicitDefEqProofs only[SX,sevalprocAttr,bd,g1,g2,g9,g10,g11,q0,r0,r1,lP,lB,e1,t0,e2,a2,a3,t3,hdg,e3];subst hQ;exact⟨_,rfl,by simp[Has,Tr.aa,g1,g2,g3,g6,g7,g8,g9,g10,g11,hr]⟩
   |true=>
    simp only[if_true] at hr hdg;have s8:=hrb rfl;simp only at s8;have hX:(k * ib 0 l+d+1) * pd<=(k+1) * (pd * ib 0 l):=by
     have h1:(k * ib 0 l+d+1) * pd<=(k * ib 0 l+ib 0 l) * pd:=ead (by omega) (by omega);have h2:(k * ib 0 l+ib 0 l) * pd=(k+1) * (pd * ib 0 l):=by rw[jae pd,<-Int.mul_assoc,Int.add_mul k 1,Pae]
     omega
    have D8:0<=k * ib 0 l:=Int.mul_nonneg hk0 (by omega)
    have hY:k * ib 0 l+d+1<=(k * ib 0 l+d+1) * pd:=by have:=yac (a:=1) (b:=pd) (c:=k * ib 0 l+d+1) j8 (by omega);omega
    have e3:decide (d < 0)=false:=Ga (by omega);have t4:IntKind.i64.wrap (k * ib 0 l)=k * ib 0 l:=Aa (by omega)
    have t5:IntKind.i64.wrap (k * ib 0 l+d)=k * ib 0 l+d:=Aa (by omega)
    have t6:IntKind.i64.wrap ((n:Int)+1)=((n+1:Nat):Int):=sg (by omega)
    generalize hQ:RH _ _ _ _=Q;simp -implicitDefEqProofs only[SX,sevalprocAttr,bd,g1,g2,g9,g10,g11,q0,r0,r1,lP,lB,e1,t0,e2,a2,a3,t3,hdg,e3,K7,t4,t5,t6];subst hQ;exact⟨(n+1,k * ib 0 l+d),[],by simp[Has,Tr.aa,g1,g2,g3,g6,g7,g8,g9],by simp,rfl,by omega,by rw[<- Nat.add_assoc];exact hr,by dsimp only;omega,by dsimp only;omega⟩
  ·have e2:decide (((a+n:Nat):Int) < (bs.length:Int))=false:=Ga (by omega)
   have N8:iu s.parts (bs.drop a) 0 0=(n,k):=by
    have kab:bs.drop (a+n)=[]:=dac (by omega)
    rw[hr,hd,kab];rfl
   generalize hQ:RH _ _ _ _=Q;simp -implicitDefEqProofs only[SX,sevalprocAttr,bd,g1,g2,g9,g10,g11,q0,r0,r1,lP,lB,e1,t0,e2];subst hQ;exact⟨_,rfl,by simp[Has,Tr.aa,g1,g2,g3,g6,g7,g8,g9,g10,g11,N8]⟩
 ·rintro⟨n,k⟩ E ⟨h,han,hr,hk0,hk1⟩ ⟨g1,g2,g3,g6,g7,g8,g9,g10,g11,_⟩
  dsimp only at h hr hk0 hk1 g10 g11;subst h;have e1:decide ((s.parts.length:Int) < (s.parts.length:Int))=false:=Ga (by omega);have N8:iu s.parts (bs.drop a) 0 0=(s.parts.length,k):=by rw[hr,Hab];rfl
  generalize hQ:(fun r:Ex×St=>r.1.stop=true/\_)=Q;simp -implicitDefEqProofs only[SX,sevalprocAttr,bd,g1,g2,g9,g10,g11,q0,r0,r1,lP,e1];subst hQ;exact⟨rfl,_,rfl,by simp[Has,Tr.aa,g1,g2,g3,g6,g7,g8,g9,g10,g11,N8]⟩
def fG(e:Kv)(a:Int):ba:= .box [.pv (i64 e.kind),.pv (i64 a),.pv (i64 e.size),.pv (i64 e.u),.pv (i64 0)]
theorem eT(H:List ba)(e:Kv)(a:Int):Ha (H++[.box [.pv (i64 0),.pv (i64 0),.pv (i64 0),.pv (i64 0),.pv (i64 0)]]) 5 (.ptr H.length 0) (.pv (ah e a))=some (H++[fG e a]):=by
 have h1:(H++[ba.box [.pv (i64 0),.pv (i64 0),.pv (i64 0),.pv (i64 0),.pv (i64 0)]])[H.length]? =some (.box [.pv (i64 0),.pv (i64 0),.pv (i64 0),.pv (i64 0),.pv (i64 0)]):=by simp
 unfold Ha;rw[if_pos ⟨rfl,rfl⟩];simp only[h1];rw[if_pos (by decide)]
 congr 1
 simp[fG,fa,ah,AV.cells,PV.cells,List.map]
theorem TR:∀ (ls:List (List (Int×Int)))(bs:List Int)(n:Nat)(k:Int),(∀ l∈ls,Hd l)->0<=k->0<=(iu ls bs n k).2/\(iu ls bs n k).2+1<=(k+1) * Na ls
 | [],bs,n,k,_,h0=>by simp[iu,Na];exact h0
 |l::ls,[],n,k,h,h0=>by have hp:=zf h;have:=yac (a:=1) (b:=Na (l::ls)) (c:=k+1) hp (by omega);simp only[iu];exact⟨h0,by omega⟩
 |l::ls,x::b,n,k,h,h0=>by
  have hp:=zf h;have V7:=zf (ls:=ls) fun y hy=>h y (by simp[hy]);have h1:=yac (a:=1) (b:=Na (l::ls)) (c:=k+1) hp (by omega);have hl:=h l (by simp);have hs:=Xg hl;rw[iu]
  by_cases hm:(Md x 0 l).2=true
  ·rw[if_pos hm]
   have hr:=gn (x:=x) (n:=0) hl.2 hm
   generalize (Md x 0 l).1=d at *
   have D8:0<=k * ib 0 l:=Int.mul_nonneg h0 (by omega)
   obtain⟨i1,i2⟩:=TR ls b (n+1) (k * ib 0 l+d) (fun y hy=>h y (by simp[hy])) (by omega);refine⟨i1,Int.le_trans i2 ?_⟩;have h2:(k * ib 0 l+d+1) * Na ls<=(k * ib 0 l+ib 0 l) * Na ls:=ead (by omega) (by omega);have h3:(k * ib 0 l+ib 0 l) * Na ls=(k+1) * Na (l::ls):=by rw[Na,jae (Na ls),<-Int.mul_assoc,Int.add_mul k 1,Pae]
   omega
  ·rw[taa hm]
   exact⟨h0,by omega⟩
theorem mN(m n:Nat):cp true [.pv (.int .i64 (m:Int)),.pv (.int .i64 (n:Int))]=some (i64 ((max m n:Nat):Int)):=by
 have:((max m n:Nat):Int)=max (m:Int) (n:Int):=by omega
 rw[this];show some (PV.int .i64 (if (n:Int) > (m:Int) then (n:Int) else (m:Int)))=some (.int .i64 (max (m:Int) (n:Int)));rw[show (if (n:Int) > (m:Int) then (n:Int) else (m:Int))=max (m:Int) (n:Int) from by split <;> omega]
theorem BK{S:PV}{ss:List Ob}{es:List PV}(hS:qb S ss es)(Ba:Xb ss){B:PV}{bs:List Int}(hB:lk B bs)(hw:bs.length<=4611686018427387904){a:Nat}(ha:a<=bs.length):
 ei [.agg [S],B,i64 a]=some (ah (nm ss (bs.drop a) 0) a):=by
 have G8:(AV.pv S).one=true:=by rcases hS.is with⟨h,_⟩ | h <;> rw[h] <;> rfl
 have lS:=hS.Tb
 have lB:=hB.Tb
 have h32:=Ba.len
 have q3:∀ H,place H 0 (.pv (.rp [S] 0))=some (.pv (.rp [S] 0)):=fun H=>rfl;have r3:∀ H,pa H false 1 (.pv (.rp [S] 0))=some (.pv S):=fun H=>rfl;have D7:=fun (E:Tr)(g1:E.get 1= .pv B)(g2:E.get 2= .pv (i64 a))(g3:E.get 3= .pv (.rp [S] 0))(g6:E.get 6= .ptr 0 0)(g7:E.get 7= .pv (i64 0))(g8:E.get 8= .pv (i64 0))=>
  xo (call:=Da (fun _=>none) 8) (b:=dh) (live:=[1,2,3,6,7,8]) (E0:=E) (H0:=[KD])
   (Q:=fun r=>(∃ E H,r=(.ret,⟨E,H⟩)/\E.get 6= .ptr 0 0/\pa H true 5 (.ptr 0 0)=some (.pv (ah (nm ss (bs.drop a) 0) a)))\/∃ E m,r=(.exit 0,⟨E,[KD]⟩)/\E.get 1= .pv B/\E.get 2= .pv (i64 a)/\E.get 6= .ptr 0 0/\E.get 7= .pv (i64 (m:Nat))/\nm ss (bs.drop a) 0=nm [] (bs.drop a) m/\m<=8)
   (fun y:Nat×Nat=>[(1,.pv B),(2,.pv (i64 a)),(3,.pv (.rp [S] 0)),(6,.ptr 0 0),(7,.pv (i64 y.2)),(8,.pv (i64 y.1))]) (fun _=>[KD]) (fun i y=>y.1=i/\nm ss (bs.drop a) 0=nm (ss.drop i) (bs.drop a) y.2/\y.2<=8) ss.length (by unfold ua;omega) (fun _=>rfl)
   (fun i y _=>⟨by simp[vj,Zn],Bo (by simp[KD,xE,vj]),rfl⟩) ⟨(0,0),⟨g1,g2,g3,g6,g7,g8,trivial⟩,rfl,rfl,rfl,by dsimp only;omega⟩
   (by
    rintro _ ⟨i,m⟩ E hi ⟨rfl,hr,hm8⟩ ⟨g1,g2,g3,g6,g7,g8,_⟩;dsimp only at *;obtain⟨P,ps,hsh,a2⟩:=hS.Pd hi
    have hd:ss.drop i=ss[i]::ss.drop (i+1):=Waa hi
    have hso:=Ba.ft ss[i] (saa hi)
    rw[hd,nm] at hr;generalize ss[i]=s at *;have hP:=hsh.parts
    obtain⟨E8,hP2⟩:=hsh.Xz
    have lP:=hP.Tb
    have h8:=hso.hi
    have hpr:=hso.prod.2
    have hf0:=hso.f0
    have hf1:=hso.f1
    have hgb:=TR s.parts (bs.drop a) 0 0 hso.parts (by omega)
    obtain⟨mm,m1,m2,m3,_⟩:=DH s.parts (bs.drop a) 0 0
    have e1:decide ((i:Int) < (ss.length:Int))=true:=Ea (by omega);have t1:IntKind.i64.wrap ((i:Int)+1)=((i+1:Nat):Int):=sg (by omega)
    have l2:∀ H,pa H true 2 (.pv (.rp [P,i64 s.first] 0))=some (.pv (.agg [P,i64 s.first])):=fun H=>rfl;have s2:Ha [KD,.box [.pv .ga,.pv (i64 0)]] 2 (.ptr 1 0) (.pv (.agg [P,i64 s.first]))=some (US P s.first):=by simp[Ha,AV.cells,PV.cells,hP2,fa,E8,show ∀ n:Int,(AV.pv (PV.int IntKind.i64 n)).one=true from fun _=>rfl]
    have q0:place (US P s.first) 0 (.ptr 1 0)=some (.ptr 1 0):=rfl;have q1:place (US P s.first) 1 (.ptr 1 0)=some (.ptr 1 1):=rfl;have r0:pa (US P s.first) false 1 (.ptr 1 0)=some (.pv P):=rfl;have r1:pa (US P s.first) false 1 (.ptr 1 1)=some (.pv (i64 s.first)):=rfl;have s5:∀ e:Kv,Ha (US P s.first) 5 (.ptr 0 0) (.pv (.agg [i64 e.kind,i64 a,i64 e.size,i64 e.u,i64 0]))=some [fG e a,.box [.pv P,.pv (i64 s.first)]]:=fun e=>rfl;have U8:=fun (E':Tr)(hE':Has E' (vM B (.rp [S] 0) a m i (0,0)))=>cX (C:= .rp [S] 0) hP hso hB (by unfold maxLen;omega) ha hE';generalize iu s.parts (bs.drop a) 0 0=g at *
    obtain⟨n,k⟩:=g;dsimp only at *;have bm:=mN m n;have hal:∀ H:List ba,H++[ba.box [.pv .ga,.pv (.int .i64 0)]]=H++[ba.box [.pv .ga,.pv (i64 0)]]:=fun H=>rfl;generalize hQ:RH _ _ _ _=Q;simp -implicitDefEqProofs only[SX,sevalprocAttr,dh,g1,g2,g3,g6,g7,g8,q3,r3,lS,e1,a2,l2,s2];refine wa (U8 _ (by simp[Has,Tr.aa,g1,g2,g3,g6,g7,g8])) ?_;rintro r ⟨_,E',rfl,k1,k2,k3,k6,k7,k8,k9,B9,C9,_⟩;dsimp only at B9 C9
    by_cases hn:n=s.parts.length
    ·have d1:((n:Int)==(s.parts.length:Int))=true:=by simp[hn]
     have t5:IntKind.i64.wrap (s.first+k)=s.first+k:=Aa (by omega)
     rw[if_pos hn] at hr;simp -implicitDefEqProofs only[SX,sevalprocAttr,k1,k2,k3,k6,k7,k8,k9,B9,C9,q0,q1,r0,r1,lP,d1,t5,fa.eq_1,fa.eq_2,List.set,Tc];subst hQ;exact .inl ⟨_,_,rfl,by simp[Tr.aa,k6],by rw[hr,<-hn];rfl⟩
    ·have d1:((n:Int)==(s.parts.length:Int))=false:=by simp;omega
     rw[taa hn] at hr;simp -implicitDefEqProofs only[SX,sevalprocAttr,k1,k2,k3,k6,k7,k8,k9,B9,C9,q0,q1,r0,r1,lP,d1,t1,bm];subst hQ;exact⟨(i+1,max m n),[.box [.pv P,.pv (i64 s.first)]],by simp[Has,Tr.aa,k1,k2,k3,k6],rfl,rfl,hr,by dsimp only;omega⟩)
   (by rintro⟨i,m⟩ E ⟨h,hr,hm8⟩ ⟨g1,g2,g3,g6,g7,g8,_⟩;dsimp only at h hr hm8 g7 g8;subst h;rw[Hab] at hr;have e1:decide ((ss.length:Int) < (ss.length:Int))=false:=Ga (by omega);generalize hQ:(fun r:Ex×St=>r.1.stop=true/\_)=Q;simp -implicitDefEqProofs only[SX,sevalprocAttr,dh,g1,g2,g3,g6,g7,g8,q3,r3,lS,e1];subst hQ;exact⟨rfl,.inr ⟨_,m,rfl,by simp[Tr.aa,g1],by simp[Tr.aa,g2],by simp[Tr.aa,g6],by simp[Tr.aa,g7],hr,hm8⟩⟩)
 apply bl;generalize hQ:(fun y=>y=ah (nm ss (bs.drop a) 0) a)=Q;simp -implicitDefEqProofs only[ei,SX,sevalprocAttr,qk,G8,qe];refine wa (D7 _ (by simp[Tr.aa]) (by simp[Tr.aa]) (by simp[Tr.aa]) (by simp[Tr.aa]) (by simp[Tr.aa]) (by simp[Tr.aa])) ?_;rintro r ⟨_,h⟩;rcases h with⟨E,H,rfl,h6,hl⟩ | ⟨E,m,rfl,g1,g2,g6,g7,hr,hm8⟩
 ·simp -implicitDefEqProofs only[SX,sevalprocAttr,h6,hl]
  subst hQ;rfl
 ·have hdl:(bs.drop a).length=bs.length - a:=Pab
  have t0:IntKind.i64.wrap ((a:Int)+(m:Int))=(a:Int)+m:=Aa (by omega)
  have bm:cp true [.pv (i64 (m:Int)),.pv (.int .i64 1)]=some (i64 ((max m 1:Nat):Int)):=mN m 1;have s5:∀ e:Kv,Ha [KD] 5 (.ptr 0 0) (.pv (.agg [i64 e.kind,i64 a,i64 e.size,i64 e.u,i64 0]))=some [fG e a]:=fun e=>rfl
  by_cases h0:0 < m
  ·have d1:decide ((m:Int) > 0)=true:=Ea (by omega)
   by_cases h1:a+m=bs.length
   ·have d2:((a:Int)+(m:Int)==(bs.length:Int))=true:=by simp;omega
    have he:nm ss (bs.drop a) 0=⟨3,m,0⟩:=by rw[hr,nm,if_pos ⟨h0,by omega⟩]
    rw[he] at hQ;simp -implicitDefEqProofs only[SX,sevalprocAttr,g1,g2,g6,g7,lB,d1,t0,d2,fa.eq_1,fa.eq_2,List.set,Tc];subst hQ;rfl
   ·have d2:((a:Int)+(m:Int)==(bs.length:Int))=false:=by simp;omega
    have he:nm ss (bs.drop a) 0=⟨2,max m 1,0⟩:=by rw[hr,nm,taa (by omega)]
    rw[he] at hQ;simp -implicitDefEqProofs only[SX,sevalprocAttr,g1,g2,g6,g7,lB,d1,t0,d2,bm,fa.eq_1,fa.eq_2,List.set,Tc];subst hQ;rfl
  ·have d1:decide ((m:Int) > 0)=false:=Ga (by omega)
   have he:nm ss (bs.drop a) 0=⟨2,max m 1,0⟩:=by rw[hr,nm,taa (by omega)]
   rw[he] at hQ;simp -implicitDefEqProofs only[SX,sevalprocAttr,g1,g2,g6,g7,lB,d1,bm,fa.eq_1,fa.eq_2,List.set,Tc];subst hQ;rfl
theorem dI{S:PV}{ss:List Ob}{es:List PV}{l:List (List de)}(hS:qb S ss es)(Ba:Xb ss){B:PV}{bs:List Int}(hB:lk B bs)(hw:bs.length<=1000000000000)(hre:∀ a,a < bs.length->nm ss (bs.drop a) 0=zu ss l (bs.drop a))(f:Nat):
 ∃ V,cf [.agg [S],B,i64 f]=some V/\Zh 5 V (Oc f (ct ss l (bs.drop f))):=by
 have G8:(AV.pv S).one=true:=by rcases hS.is with⟨h,_⟩ | h <;> rw[h] <;> rfl
 have lB:=hB.Tb
 have d0:decide ((f:Int) < 0)=false:=Ga (by omega);have gh:∀ E:Tr,E.get 7= .pv .ga->fe (.DA 7 5) ⟨E,[]⟩=some ⟨E.set 7 (.uq 0 true 5 []),[.tok 5 0 true]⟩:=fun E h=>by simp only[fe,h];rfl
 have D7:=fun (E:Tr)(g1:E.get 1= .pv B)(g3:E.get 3= .pv (.rp [S] 0))(g7:E.get 7= .uq 0 true 5 [])(g8:E.get 8= .pv (i64 f))=>
  GS (call:=Da (fun _=>none) 8) (b:=Hg) (live:=[1,3,7,8]) (E0:=E) (H0:=[.tok 5 0 true]) (Q:=fun r=>∃ E nl H,r=(.exit 0,⟨E,H⟩)/\E.get 7= .uq 0 nl 5 (Oc f (ct ss l (bs.drop f)))/\(nl=true->Oc f (ct ss l (bs.drop f))=[]))
   (fun y:Nat×List PV×Bool=>[(1,.pv B),(3,.pv (.rp [S] 0)),(7,.uq 0 y.2.2 5 y.2.1),(8,.pv (i64 y.1))]) (fun y=>[.tok 5 y.2.1.length y.2.2]) (fun y=>Oc f (ct ss l (bs.drop f))=y.2.1++Oc y.1 (ct ss l (bs.drop y.1))/\y.2.1.length<=y.1/\(y.2.2=true->y.2.1=[])) (fun y=>bs.length - y.1) bs.length (by unfold ua;omega) (fun _=>rfl)
   (fun y _=>⟨by simp[vj,wz],Bo rfl,rfl⟩) ⟨(f,[],true),⟨g1,g3,g7,g8,trivial⟩,rfl,⟨rfl,Iac _,fun _=>rfl⟩,by dsimp only;omega⟩
   (by
    rintro⟨k,acc,nl⟩ E ⟨hr,hl,Y7⟩ ⟨g1,g3,g7,g8,_⟩;dsimp only at *
    by_cases hk:k < bs.length
    ·have e1:decide ((k:Int) < (bs.length:Int))=true:=Ea (by omega)
     have I7:bs.drop k≠[]:=fun e=>by have:=Pab (i:=k) (l:=bs);rw[e] at this;simp at this;omega
     have E7:=BK hS Ba hB (by omega) (a:=k) (by omega);rw[hre k hk] at E7;have hs:=cv ss l I7;rw[Pab] at hs;rw[YC ss l I7,Oc,List.drop_drop] at hr;generalize zu ss l (bs.drop k)=e at *;have st:Ha [.tok 5 acc.length nl,.box [.pv (i64 0),.pv (i64 0),.pv (i64 0),.pv (i64 0),.pv (i64 0)]] 5 (.ptr 1 0) (.pv (ah e k))=some [.tok 5 acc.length nl,fG e k]:=eT [.tok 5 acc.length nl] e k;have ld:pa [.tok 5 acc.length nl,fG e k] true 5 (.ptr 1 0)=some (.pv (ah e k)):=rfl;have bsl:∀ H:List ba,((if (List.map AV.pv (ah e k).cells).length=5/\(List.map AV.pv (ah e k).cells).all AV.one=true then some (fa [AV.pv (PV.int IntKind.i64 0),AV.pv (PV.int IntKind.i64 0),AV.pv (PV.int IntKind.i64 0),AV.pv (PV.int IntKind.i64 0),AV.pv (PV.int IntKind.i64 0)] 0 (List.map AV.pv (ah e k).cells)) else none).bind fun cs=>
      if cs.all AV.one=true then Option.map (fun ps=>(AV.pv (PV.lit 5 [PV.agg (List.take 5 ps)]),H)) (Tc cs) else none)=some (.pv (.lit 5 [ah e k]),H):=fun H=>rfl
     have ap:Cb [.tok 5 acc.length nl,fG e k] false .uq 5 true 40 (.uq 0 nl 5 acc) (.pv (.lit 5 [ah e k]))=some (.uq 0 false 5 (acc++[ah e k]),[.tok 5 (acc++[ah e k]).length false,fG e k]):=by rw[GA (n:=acc.length) (nl':=nl) (id:=0) rfl rfl (by unfold eb;simp;omega)];simp
     have pl:place [.tok 5 (acc++[ah e k]).length false,fG e k] 2 (.ptr 1 0)=some (.ptr 1 2):=rfl;have l2:pa [.tok 5 (acc++[ah e k]).length false,fG e k] false 1 (.ptr 1 2)=some (.pv (i64 e.size)):=rfl;have t1:IntKind.i64.wrap ((k:Int)+(e.size:Int))=((k+e.size:Nat):Int):=(Aa (by omega)).trans (by omega)
     have fl:Nj (ah e k)=true:=rfl;generalize laq:ah e k=ev at *;generalize hQ:RH _ _ _ _=Q;simp -implicitDefEqProofs only[SX,sevalprocAttr,Hg,g1,g3,g7,g8,lB,e1,qe,E7,st,ld,bsl,ap,pl,l2,t1,fl];subst hQ;refine⟨(k+e.size,acc++[ev],false),[fG e k],by simp[Has,Tr.aa,g1,g3],rfl,⟨by rw[hr];simp,by simp;omega,fun h=>by simp at h⟩,by dsimp only;omega⟩
    ·have e1:decide ((k:Int) < (bs.length:Int))=false:=Ga (by omega)
     have kab:bs.drop k=[]:=dac (by omega)
     rw[kab,nC,Oc,Kab] at hr;generalize hQ:RH _ _ _ _=Q;simp -implicitDefEqProofs only[SX,sevalprocAttr,Hg,g1,g3,g7,g8,lB,e1];subst hQ;exact⟨_,nl,_,rfl,by rw[hr];simp[Tr.aa,g7],fun h=>by rw[hr];exact Y7 h⟩)
 suffices key:qd (fun V=>Zh 5 V (Oc f (ct ss l (bs.drop f)))) (cf [.agg [S],B,i64 f]) by obtain⟨V,h1,h2⟩:=wc key;exact⟨V,h1,h2⟩
 generalize hQ:(fun V=>Zh 5 V (Oc f (ct ss l (bs.drop f))))=Q;simp -implicitDefEqProofs only[cf,SX,sevalprocAttr,Yj,G8,qe,gh,d0,Tr.aa];refine wa (D7 _ (by simp[Tr.aa]) (by simp[Tr.aa]) (by simp[Tr.aa]) (by simp[Tr.aa])) ?_;rintro r ⟨_,E,nl,H,rfl,h7,hn⟩;obtain⟨V,hv,hV⟩:=HY H (id:=0) (sz:=5) hn;simp -implicitDefEqProofs only[SX,sevalprocAttr,h7,hv];subst hQ;exact hV
theorem RR:∀ (k:Nat)(l:List Kv),∀ x∈Oc k l,X2 x
 |_,[],x,h=>by cases h
 |k,e::r,x,h=>by
  rcases bab.1 h with rfl | h
  ·exact⟨_,_,_,_,_,rfl⟩
  ·exact RR _ _ x h
theorem DQ{S:PV}{ss:List Ob}{es:List PV}(hS:qb S ss es)(hz:GF ss):∃ T,jh [.agg [S]]=some (.mc [T,.bool true])/\
 (T= .qf\/(Xb ss/\Df ss/\Gm ss/\∃ l R,T= .rp R 0/\ig ss=some l/\Uo T ss l/\∀ e∈l,sj e)):=by
 obtain⟨n,V,hr,_,hV1,ht⟩:=ZK ss;have hr:=hr S es hS;obtain⟨T,ht,ho⟩:=ht (x6 ss) (Pq ss) (wQ hS);have hcp:=BU hS hz;have G8:(AV.pv S).one=true:=by rcases hS.is with⟨h,_⟩ | h <;> rw[h] <;> rfl
 have s1:Ha [.box [.pv .ga]] 1 (.ptr 0 0) (.pv (.agg [V]))=some [.box [.pv V]]:=by simp[Ha,AV.cells,PV.cells,hV1,fa]
 have d1:(n==n)=true:=by simp
 refine⟨T,?_,?_⟩
 ·rcases ho with⟨h0,rfl⟩ | ⟨rfl,_,_,_,l,_,hT,_⟩
  ·have d2:(n != 0)=true:=by simp[h0]
   have e1:∀ H,Kq H 1 (.pv .qf) (.pv .qf)=some true:=fun H=>rfl;have e2:∀ H,Kq H 0 (.pv (.bool true)) (.pv (.bool true))=some true:=fun H=>rfl;simp -implicitDefEqProofs only[jh,SX,sevalprocAttr,aj,G8,qe,hcp,ht,hr,s1,d1,d2,e1,e2]
  ·have d2:((0:Int) != 0)=false:=rfl
   have d1:((0:Int)==0)=true:=rfl;obtain⟨R,rfl⟩:∃ R,T= .rp R 0:=by
    obtain⟨S',NX,DG,RW,h,_⟩:=hT.ex
    exact⟨_,h⟩
   have e1:∀ H,Kq H 1 (.pv (.rp R 0)) (.pv .qf)=some false:=fun H=>rfl;have e2:∀ H,Kq H 0 (.pv (.bool false)) (.pv (.bool false))=some true:=fun H=>rfl;simp -implicitDefEqProofs only[jh,SX,sevalprocAttr,aj,G8,qe,hcp,ht,hr,s1,d1,d2,e1,e2]
 ·rcases ho with⟨_,h⟩ | ⟨_,h1,h2,h3,l,h4,h5,h6⟩
  ·exact .inl h
  ·obtain⟨S',NX,DG,RW,h,_⟩:=h5.ex
   exact .inr ⟨h1,h2,h3,l,_,h,h4,h5,h6⟩
theorem IQ:wL og:=⟨rfl,rfl,rfl,rfl,rfl,rfl,rfl,rfl⟩
section
variable {R:List PV}{ss:List Ob}{l:List (List de)}(hT:Uo (.rp R 0) ss l)(Ba:Xb ss)(ho:∀ e∈l,sj e)(H7:Df ss)(ha:ig ss=some l)
include hT Ba ho H7 ha
theorem YY{B:PV}{bs:List Int}(hB:lk B bs)(hbs:bs.length<=65536){C:PV}{cs:List Int}(hC:Zh 1 C (cs.map i64))(n9:cs.length * 8<=140737488355328):
 ∃ V,uj [.rp R 0,B,C]=some (.mc [V,i64 (nf ss l bs).1.length,.bool true])/\Zh 5 V (Oc 0 (ct ss l bs)):=by
 have D:=IQ;obtain⟨A0,n1,i1,_,l1⟩:=vJ (n:=6) D (l:=l) (R:=R) (bad:=1) Vd.nil (.inl rfl)
 rw[Dab,eab] at n1 i1 l1;have hA0:A0=[We OE 8 0 0,Lc (.rp R 0) 1 0 0 0 0 false false]:=by
  match A0,l1,i1.hc,i1.hd with
  | [x,y],_,h1,h2=>simp at h1 h2;rw[h1,h2]
 obtain⟨s0,hs0⟩:∃ s0:iR,s0=⟨OE,0,[],0,0,0,false,false⟩:=⟨_,rfl⟩;have h0:qV ss l bs cs.length 0 (.rp R 0) s0 0 [] true:=by subst hs0;exact⟨uJ S5 rfl 1 _ _,rfl,rfl,rfl,rfl,rfl,Iac _,fun h=>absurd h (Nat.not_lt_zero _),fun _=>rfl⟩
 have D7:=fun E0=>HW (n:=3) D hT Ba ho H7 ha hB hbs hC n9 h0 (E0:=E0);have hH0:A0++[ba.tok 5 0 true]=[We s0.buf 8 s0.h s0.q.length,Lc (.rp R 0) 1 0 s0.st s0.at_ s0.Jc s0.ya s0.fin,.tok 5 0 true]:=by rw[hA0,hs0];rfl
 rw[<- hH0] at D7;have e1:=i1.nn
 have z1:((0:Int) != 0)=false:=rfl;have z0:((0:Int)==0)=true:=rfl;have gh:∀ E:Tr,E.get 11= .pv .ga->fe (.DA 11 5) ⟨E,A0⟩=some ⟨E.set 11 (.uq 2 true 5 []),A0++[.tok 5 0 true]⟩:=fun E h=>by simp only[fe,h,l1];rfl
 have fl:∀ n:Int,Nj (i64 n)=true:=fun n=>rfl;have D88:og 88=some oc:=rfl;rw[uj,Pb];have hfl:=fun {A s}=>SD (n:=5) D (l:=l) (A:=A) (d:=1) (c:=0) (T:= .rp R 0) (bad:=1) (s:=s) D88;generalize Da og 8=call at *
 suffices key:qd (fun r=>∃ V,Ub r.2 deep r.1=some (.mc [V,i64 (nf ss l bs).1.length,.bool true])/\Zh 5 V (Oc 0 (ct ss l bs))) (ef call Hh [.pv (.rp R 0),.pv B,.pv C] []) by obtain⟨r,hr1,V,hr2,hV⟩:=wc key;exact⟨V,by show (ef call Hh [.pv (.rp R 0),.pv B,.pv C] []).bind _=_;rw[hr1];exact hr2,hV⟩
 generalize hQ:(fun r:AV×List ba=>∃ V,Ub r.2 deep r.1=some _/\_)=Q;clear hH0 hA0;simp -implicitDefEqProofs only[SP,WP,sevalprocAttr,Hh,n1,e1,z1,DB,gh,Tr.aa];refine wa (D7 _ (by simp[Tr.aa]) (by simp[Tr.aa]) (by simp[Tr.aa]) (by simp[Tr.aa]) (by simp[Tr.aa]) (by simp[Tr.aa])) ?_;rintro r ⟨_,E,s,all,nl,rfl,r9,r11,hp⟩;obtain⟨H1,hH1⟩:∃ H1,H1=[We s.buf 8 s.h s.q.length,Lc (.rp R 0) 1 0 s.st s.at_ s.Jc s.ya s.fin,.tok 5 all.length nl]:=⟨_,rfl⟩;rw[<- hH1];have hI:=hp.is
 rw[<- hH1] at hI;have hfd:=hp.fd
 rw[Fab,(Hz ss l bs [] 0 rfl).1,cab] at hfd;have c1:(nf ss l bs).1=all:=congrArg (fun x=>x.1) hfd
 have c2:(nf ss l bs).2=s.q:=congrArg (fun x=>x.2.1) hfd
 obtain⟨k1,k2,_,_,k5⟩:=Nv ss l _ bs (waa _);rw[c1,c2] at k1 k2 k5;have k2:xz all+s.q.length=bs.length:=k2
 obtain⟨A',s',R8,hI',hk,hq',oaq,_⟩:=hfl hI hp.fin (by rw[hp.X5];omega)
 obtain⟨xs,hxs⟩:∃ xs,xs=if s.q=[] then [] else [ah ⟨3,s.q.length,0⟩ s.at_]:=⟨_,rfl⟩
 obtain⟨X,hX⟩:∃ X:PV,X=if s.q=[] then .ga else .lit 5 [ah ⟨3,s.q.length,0⟩ s.at_]:=⟨_,rfl⟩
 rw[<- hX] at R8;have hXl:Zh 5 X xs:=by
  rw[hX,hxs]
  by_cases h:s.q=[]
  ·rw[if_pos h,if_pos h];exact .inl ⟨rfl,rfl⟩
  ·rw[taa h,taa h];exact .inr rfl
 have hxl:xs.length<=1:=by rw[hxs];split <;> simp
 have h2t:A'[2]? =some (.tok 5 all.length nl):=by rw[hk.get 2 (by rw[hH1];simp) (by decide) (by decide),hH1];rfl
 obtain⟨nl2,qad⟩:∃ b,b=(nl&&xs.isEmpty):=⟨_,rfl⟩;obtain⟨H2,Z9⟩:∃ H2,H2=A'.set 2 (.tok 5 ((Oc 0 all).length+xs.length) nl2):=⟨_,rfl⟩
 have ap:=xH (H:=A') (ag:=true) (bytes:=40) (nl:=nl) hXl (es:=Oc 0 all) h2t (Xf 0 all).symm (by unfold eb;rw[Xf];omega)
 rw[<- qad,<-Z9] at ap;have hI2:pq l H2 1 0 (.rp R 0) 1 s':=by rw[Z9];exact hI'.set (by decide) (by decide) (Still.tok _ _ _)
 obtain⟨row,tp,gH,_⟩:=zF hI2;rw[hq'] at gH;have v8:Oc 0 (ct ss l bs)=Oc 0 all++xs:=by
  rw[k1,IB,eab,hxs,hp.X5]
  by_cases h:s.q=[]
  ·rw[if_pos h,if_pos h];rfl
  ·rw[taa h,taa h];rfl
 have lu:∀ H,Tb H 0 (.uq 2 nl 5 (Oc 0 all))=some all.length:=fun H=>by rw[RE,Xf]
 have gH:Zb [.rp row 0]=some (i64 0):=gH;have tuq:∀ H,Ub H 6 (.uq 2 nl2 5 (Oc 0 all++xs))=some (if nl2 then .ga else .lit 5 (Oc 0 all++xs)):=fun H=>rfl;have hmt:∀ a b c:PV,∀ v:AV,(∀ p,v≠ .pv p)->qy [v,.pv a,.pv b]= .mc [v,.pv a,.pv b]:=fun a b c v h=>by
  cases v with
  |pv p=>exact absurd rfl (h p)
  |_=>rfl
 have xal:∀ n,qy [.uq 2 nl2 5 (Oc 0 all++xs),.pv (i64 n),.pv (.bool true)]= .mc [.uq 2 nl2 5 (Oc 0 all++xs),.pv (i64 n),.pv (.bool true)]:=fun n=>rfl
 have hW:nl2=true->Oc 0 all++xs=[]:=fun h=>by rw[qad,daa] at h;rw[hp.nil h.1,List.isEmpty_iff.1 h.2];rfl
 rw[v8,c1] at hQ;generalize Oc 0 all++xs=W at *;clear Z9 hxs hX hI' hI hI2;simp -implicitDefEqProofs only[SP,WP,sevalprocAttr,r9,r11,lu,R8,ap,z0,tp,gH,fl,xal];subst hQ;refine⟨if nl2 then .ga else .lit 5 W,?_,?_⟩
 ·rfl
 ·cases nl2 with
  |true=>exact .inl ⟨rfl,hW rfl⟩
  |false=>exact .inr rfl
end
theorem nT{ss:List Ob}{l:List (List de)}(Ba:Xb ss)(H7:Df ss)(hinj:Gm ss)(ha:ig ss=some l){bs:List Int}(hr:∀ b∈bs,0<=b/\b<=255){a:Nat}(h:a < bs.length):nm ss (bs.drop a) 0=zu ss l (bs.drop a):=by
 have hd:∀ b∈bs.drop a,0<=b/\b<=255:=fun b hb=>hr b (bac hb)
 have:=yY Ba H7 hinj ha (w:=(bs.drop a).map Int.toNat) (lE hd) (fun e=>by
  have:=congrArg List.length e
  simp at this;omega)
 rw[EJ hd] at this;exact this
theorem FH{S:PV}{ss:List Ob}{es:List PV}(hS:qb S ss es)(hz:GF ss){B:PV}{bs:List Int}(hB:lk B bs){C:PV}{cs:List Int}(hC:Zh 1 C (cs.map i64))(n9:cs.length * 8<=140737488355328):Jd [.agg [S],B,C]=some (.bool true):=by
 have G8:(AV.pv S).one=true:=by rcases hS.is with⟨h,_⟩ | h <;> rw[h] <;> rfl
 obtain⟨T,hmk,hT⟩:=DQ hS hz;have hfx:=BO;have lB:=hB.Tb
 rcases hT with rfl | ⟨Ba,H7,hinj,l,R,rfl,ha,hT,ho⟩
 ·have e1:∀ H,Kq H 1 (.pv .qf) (.pv .qf)=some true:=fun H=>rfl
  simp -implicitDefEqProofs only[Jd,SX,sevalprocAttr,Fc,G8,qe,hmk,hfx,e1]
 have e1:∀ H,Kq H 1 (.pv (.rp R 0)) (.pv .qf)=some false:=fun H=>rfl
 by_cases hbs:bs.length<=65536
 ·have d1:decide ((bs.length:Int) > 65536)=false:=Ga (by omega)
  obtain⟨V,hV,hVl⟩:=YY hT Ba ho H7 ha hB hbs hC n9;obtain⟨W,hW,hWl⟩:=dI (l:=l) hS Ba hB (by omega) (fun a h=>nT Ba H7 hinj ha hB.By h) 0;rw[Aac] at hWl;replace hW:cf [.agg [S],B,.int .i64 0]=some W:=hW;have hl:(ct ss l bs).length<=bs.length+1:=by
   obtain⟨k1,_,_,_,k5⟩:=Nv ss l _ bs (waa _);rw[k1,Aaa]
   split <;> simp <;> omega
  have hsm:=eN hVl hWl (RR _ _) (by rw[Xf];omega);have lW:=hWl.len
  rw[Xf] at lW;obtain⟨k1,_,_,_,k5⟩:=Nv ss l _ bs (waa _);have E7:∀ H,(nf ss l bs).2≠[]->∃ p:Nat,ta H 5 (.pv W) ((nf ss l bs).1.length:Int)=some (.pv (.rp (Qo 3 p (nf ss l bs).2.length 0) 0)):=fun H I7=>by
   rw[taa I7] at k1;have hlt:(nf ss l bs).1.length < (ct ss l bs).length:=by rw[k1];simp
   obtain⟨p,hp⟩:=FF 0 (ct ss l bs) (nf ss l bs).1.length hlt
   have hg:(ct ss l bs)[(nf ss l bs).1.length]=⟨3,(nf ss l bs).2.length,0⟩:=by
    have:(ct ss l bs)[(nf ss l bs).1.length]? =some ⟨3,(nf ss l bs).2.length,0⟩:=by rw[k1];simp
    exact Bad ((caa hlt).symm.trans this)
   rw[hg] at hp;refine⟨p,?_⟩;rw[hWl.lit (i:=(nf ss l bs).1.length) (by rw[Xf];exact hlt)];simp only[ta];rw[if_pos ⟨trivial,by unfold Ia;rw[Xf];omega⟩,Eaa,hp];rfl
  have hlen:(ct ss l bs).length=(nf ss l bs).1.length+if (nf ss l bs).2=[] then 0 else 1:=by
   conv=>lhs;rw[k1]
   rw[Aaa]
   split <;> rfl
  generalize (ct ss l bs).length=n at *
  generalize (nf ss l bs).1.length=a at *
  generalize (nf ss l bs).2=q at *
  by_cases hq:q=[]
  ·rw[if_pos hq] at hlen
   have x1:decide ((a:Int)<=(n:Int))=true:=Ea (by omega);have x2:((a:Int)==(n:Int))=true:=by simp;omega
   clear E7;simp -implicitDefEqProofs only[Jd,SX,sevalprocAttr,Fc,G8,qe,hmk,hfx,e1,lB,d1,hV,hW,hsm,lW,x1,x2]
  ·rw[taa hq] at hlen
   obtain⟨p,hp⟩:=E7 [] hq;have x1:decide ((a:Int)<=(n:Int))=true:=Ea (by omega);have x2:((a:Int)==(n:Int))=false:=by simp;omega
   have w1:IntKind.i64.wrap ((n:Int) - 1)=(a:Int):=(Aa (by omega)).trans (by omega)
   have x3:((a:Int)==(a:Int))=true:=by simp
   have z3:((3:Int)==3)=true:=rfl;have i1:∀ H,place H 0 (.pv (.rp (Qo 3 p q.length 0) 0))=some (.pv (.rp (Qo 3 p q.length 0) 0)):=fun H=>rfl;have j1:∀ H,pa H false 1 (.pv (.rp (Qo 3 p q.length 0) 0))=some (.pv (i64 3)):=fun H=>rfl;generalize Qo 3 p q.length 0=Ro at *
   clear E7;simp -implicitDefEqProofs only[Jd,SX,sevalprocAttr,Fc,G8,qe,hmk,hfx,e1,lB,d1,hV,hW,hsm,lW,x1,x2,x3,z3,w1,hp,i1,j1]
 ·have d1:decide ((bs.length:Int) > 65536)=true:=Ea (by omega)
  simp -implicitDefEqProofs only[Jd,SX,sevalprocAttr,Fc,G8,qe,hmk,hfx,e1,lB,d1]
end Go.AM.B1
namespace Go.Proofs.YtijlhblleiaomaaGreat
open Go.ChangeShapes Go.WideShapes Go.ChangeAt Go.RowKit Go.AM
theorem GV:Tryz.prog.cellsOf 116=2:=by kernel_rfl
theorem VW:Tryz.prog.bytesOf 116=16:=by kernel_rfl
theorem nY:Tryz.prog.cellsOf 117=1:=by kernel_rfl
theorem RV:Tryz.prog.bytesOf 117=24:=by kernel_rfl
theorem nX:Tryz.prog.cellsOf 107=2:=by kernel_rfl
theorem BW:Tryz.prog.bytesOf 107=32:=by kernel_rfl
theorem RY{g:Nat}{row:List PV}(h:Sh Tryz.prog (g+2) 116 row):∃ p:Int×Int,Dn Tryz.prog 116 row=B1.pr p:=by
 rw[dD Tryz.underlying116];obtain⟨rows,hl,rfl,hr⟩:=qD Tryz.underlying116 h
 match rows,hl with
 | [x,y],_=>
   obtain⟨a,rfl,_⟩:=nF Tryz.underlying3 (hr 0 _ x rfl rfl)
   obtain⟨b,rfl,_⟩:=nF Tryz.underlying3 (hr 1 _ y rfl rfl)
   exact⟨(a,b),rfl⟩
theorem FX{α β:Type}{f:α->β}:∀ {es:List β},(∀ e∈es,∃ a,e=f a)->∃ l:List α,es=l.map f
 | [],_=>⟨[],rfl⟩
 |e::es,h=>by obtain⟨a,ha⟩:=h e (by simp);obtain⟨l,hl⟩:=FX (es:=es) fun e he=>h e (by simp[he]);exact⟨a::l,by rw[ha,hl];rfl⟩
theorem LW{g:Nat}{row:List PV}(h:Sh Tryz.prog (g+3) 117 row):∃ (V:PV)(l:List (Int×Int)),row=[V]/\B1.iq V l:=by
 rcases cB Tryz.underlying117 h with rfl | ⟨es,rfl,h1,h2,h3⟩
 ·exact⟨_,[],rfl,.inl ⟨rfl,rfl⟩,Iac _⟩
 ·obtain⟨l,hl⟩:=FX (f:=B1.pr) (es:=es.map (Dn Tryz.prog 116)) (by
   intro e he;obtain⟨r,hr,rfl⟩:=oab.1 he
   exact RY (h3 r hr))
  have hlen:l.length=es.length:=by have:=congrArg List.length hl;simpa using this.symm
  refine⟨_,l,rfl,.inr (by rw[GV,hl]),?_⟩;rw[hlen];rw[VW] at h2;exact sac h2 (by decide)
theorem CL{R A:Type}{f:R->PV}{Q:PV->A->Prop}:∀ (es:List R),(∀ r∈es,∃ a,Q (f r) a)->∃ l:List A,l.length=es.length/\∀ (k:Nat) v a,(es.map f)[k]? =some v->l[k]? =some a->Q v a
 | [],_=>⟨[],rfl,by simp⟩
 |r::es,h=>by
  obtain⟨a,ha⟩:=h r (by simp);obtain⟨l,h1,h2⟩:=CL es fun x hx=>h x (by simp[hx]);refine⟨a::l,by simp[h1],?_⟩;intro k v b hv hb
  match k with
  |0=>simp at hv hb;subst hv hb;exact ha
  |k+1=>exact h2 k v b (by simpa using hv) (by simpa using hb)
theorem ZV{g:Nat}{row:List PV}(h:Sh Tryz.prog (g+4) 105 row):∃ (P:PV)(ls:List (List (Int×Int)))(ps:List PV),row=[P]/\B1.xf P ls ps/\ls.length * 24<=140737488355328:=by
 rcases cB Tryz.underlying105 h with rfl | ⟨es,rfl,h1,h2,h3⟩
 ·exact⟨_,[],[],rfl,⟨.inl ⟨rfl,rfl⟩,rfl,by simp,by simp⟩,by simp⟩
 ·obtain⟨l,hl,hq⟩:=CL (f:=Dn Tryz.prog 117) (Q:=B1.iq) es (by
   intro r hr;obtain⟨V,l,rfl,hV⟩:=LW (h3 r hr);rw[jG Tryz.underlying117];exact⟨l,hV⟩)
  have hz:l.length * 24<=140737488355328:=by rw[RV] at h2;rw[hl];exact sac h2 (by decide)
  exact⟨_,l,es.map (Dn Tryz.prog 117),rfl,⟨.inr (by rw[nY]),by rw[paa,hl],hq,by unfold maxLen;omega⟩,hz⟩
theorem DX{g:Nat}{row:List PV}(h:Sh Tryz.prog (g+5) 107 row):∃ (s:B1.Ob),(∃ P ps,B1.fg (Dn Tryz.prog 107 row) s P ps)/\s.parts.length * 24<=140737488355328:=by
 rw[dD Tryz.underlying107];obtain⟨rows,hl,rfl,hr⟩:=qD Tryz.underlying107 h
 match rows,hl with
 | [x,y],_=>
   obtain⟨P,ls,ps,rfl,hP,hz⟩:=ZV (hr 0 _ x rfl rfl);obtain⟨b,rfl,_⟩:=nF Tryz.underlying3 (hr 1 _ y rfl rfl)
   exact⟨⟨ls,b⟩,⟨P,ps,rfl,hP⟩,hz⟩
theorem sU{g:Nat}{row:List PV}(h:Sh Tryz.prog (g+6) 22 row):∃ (S:PV)(ss:List B1.Ob)(es:List PV),row=[S]/\B1.qb S ss es/\B1.GF ss:=by
 rcases cB Tryz.underlying22 h with rfl | ⟨es,rfl,h1,h2,h3⟩
 ·exact⟨_,[],[],rfl,⟨.inl ⟨rfl,rfl⟩,rfl,by simp,by simp⟩,⟨by simp,by simp⟩⟩
 ·obtain⟨l,hl,hq⟩:=CL (f:=Dn Tryz.prog 107) (Q:=fun e s=>(∃ P ps,B1.fg e s P ps)/\s.parts.length * 24<=140737488355328) es (fun r hr=>DX (h3 r hr))
  have hz:l.length * 32<=140737488355328:=by rw[BW] at h2;rw[hl];exact sac h2 (by decide)
  refine⟨_,l,es.map (Dn Tryz.prog 107),rfl,⟨.inr (by rw[nX]),by rw[paa,hl],fun k e s he hs=>(hq k e s he hs).1,by unfold maxLen;omega⟩,hz,?_⟩;intro s hs;obtain⟨k,hk,rfl⟩:=Eab hs;exact (hq k _ _ (caa (by rw[paa];omega)) (caa hk)).2
theorem UT{g:Nat}{row:List PV}(h:Sh Tryz.prog (g+7) 24 row):∃ (S:PV)(ss:List B1.Ob)(es:List PV),row=[S]/\B1.qb S ss es/\B1.GF ss:=by
 obtain⟨rows,hl,rfl,hr⟩:=qD Tryz.underlying24 h
 match rows,hl with
 | [x],_=>obtain⟨S,ss,es,rfl,h1,h2⟩:=sU (hr 0 _ x rfl rfl);exact⟨S,ss,es,rfl,h1,h2⟩
theorem own:ownKnob Tryz.prog.godebug=none:=by kernel_rfl
theorem laidOut:laidOutB Tryz.prog=true:=by kernel_rfl
theorem wf_i64{n:Int}(h:(Lit.int .i64 n).wf=true): -9223372036854775808<=n/\n<=9223372036854775807:=by
 simp only[Lit.wf,daa,decide_eq_true_eq] at h;exact h
theorem G3:Tryz.prog.cellsOf 5=1:=by kernel_rfl
theorem U4:Tryz.prog.bytesOf 5=1:=by kernel_rfl
theorem wf_u8{n:Int}(h:(Lit.int .u8 n).wf=true):0<=n/\n<=255:=by
 simp only[Lit.wf,daa,decide_eq_true_eq] at h;exact h
theorem LX{g:Nat}{row:List PV}(h:Sh Tryz.prog (g+2) 25 row):∃ (B:PV)(bs:List Int),row=[B]/\B1.lk B bs/\bs.length<=reachBytes:=by
 rcases JR Tryz.underlying25 Tryz.underlying5 h with rfl | ⟨l,rfl,_,hl,hw⟩
 ·exact⟨_,[],rfl,⟨.inl ⟨rfl,rfl⟩,by simp⟩,Iac _⟩
 ·rw[U4,Nat.mul_one] at hl
  exact⟨_,l,rfl,⟨.inr (by rw[G3]),fun b hb=>wf_u8 (hw b hb)⟩,hl⟩
theorem I4:Tryz.prog.cellsOf 3=1:=by kernel_rfl
theorem y3:Tryz.prog.bytesOf 3=8:=by kernel_rfl
theorem UY{g:Nat}{row:List PV}(h:Sh Tryz.prog (g+2) 46 row):∃ (U:PV)(us:List Int),row=[U]/\B1.Zh 1 U (us.map B1.i64)/\us.length * 8<=reachBytes/\∀ u∈us,u<=9223372036854775807:=by
 rcases JR Tryz.underlying46 Tryz.underlying3 h with rfl | ⟨l,rfl,_,hl,hw⟩
 ·exact⟨_,[],rfl,.inl ⟨rfl,rfl⟩,Iac _,by simp⟩
 ·rw[y3] at hl
  exact⟨_,l,rfl,.inr (by rw[I4]),hl,fun u hu=>(wf_i64 (hw u hu)).2⟩
end Go.Proofs.YtijlhblleiaomaaGreat
