/- What functions of the program compute. -/
import Derived.Test.YtdglpnpkgngcdaaGreatX12
import Derived.Test.YtdglpnpkgngcdaaGreatX13
import Derived.Test.YtdglpnpkgngcdaaGreatX10
import Derived.Test.YtdglpnpkgngcdaaGreatC3
import Derived.Test.YtdglpnpkgngcdaaGreatRows
set_option linter.unusedVariables false
set_option linter.unusedSimpArgs false
namespace Go.AM.B1
open Go.AM Go.AM.So
theorem OS (x:ByteArray):(x.data.toList==x.data.toList)=true:=by simp
end Go.AM.B1
namespace Go.AM.B1
open Go.AM Go.AM.So
theorem vH {ss:List mc} (h:∀ s∈ss,∀ l∈s.parts,l.length≤1000) (h2:∀ s∈ss,s.parts.length≤1000) (h3:ss.length≤1000):pb (.lit 2 (ss.map De)) ss (ss.map De):=by
 refine⟨.inr rfl,by rw[List.length_map],fun k e s he hs=> ?_,by unfold maxLen;omega⟩
 rw[List.getElem?_map,hs] at he
 injection he with he
 have hm:=List.mem_of_getElem? hs
 refine⟨_,_,he.symm,.inr rfl,by rw[List.length_map],fun j v l hv hl=> ?_,by have:=h2 s hm;unfold maxLen;omega⟩
 rw[List.getElem?_map,hl] at hv
 injection hv with hv
 have:=h s hm l (List.mem_of_getElem? hl)
 exact⟨.inr hv.symm,by omega⟩
theorem NI {ss:List mc} {l:List (List ef)} {a b c d:Int} (hh:pb (.lit 2 (ss.map De)) ss (ss.map De)) (hv:qf [.agg [.lit 2 (ss.map De)]]=some (.bool true)) (hp:ze [.agg [.lit 2 (ss.map De)]]=some (.oc [.agg [.bool true,i64 a,i64 b],i64 0]))
 (hi:Eg [.agg [.lit 2 (ss.map De)]]=some (.oc [.agg [.bool true,i64 c,i64 d],i64 0])) (ha:Pg ss=some l):
 Ec ss∧∃ T,Gb [.agg [.lit 2 (ss.map De)]]=some (.oc [T,i64 0])∧Iu T ss l∧∀ e∈l,pn e:=by
 obtain⟨x,h1,h2⟩:=Wi hh
 rw[hv] at h1
 injection h1 with h1
 injection h1 with h1
 have Aa:=h2.1 h1.symm
 obtain⟨y,a',b',h3,h4⟩:=(qD hh).2 Aa
 rw[hp] at h3
 injection h3 with h3
 injection h3 with h3
 injection h3 with h3 _
 injection h3 with h3
 injection h3 with h3 _
 injection h3 with h3
 have hpre:=h4.1 h3.symm
 obtain⟨T,t1,t2⟩:=bD hh Aa hpre ha hi
 exact⟨Aa,T,t1,t2,BE Aa hpre ha⟩
end Go.AM.B1
namespace Go.AM.B1
open Go.AM Go.AM.So
def uX (cd:Int→Option (List Int)) (un repl:Int):Int:=if un < 1∨un > 3 then 180 else if un=2∧cd repl=none then 190 else 0
def cI (cd:Int→Option (List Int)) (un repl:Int):List Int:=if un=2 then (cd repl).getD [] else []
theorem nF.of {T:PV} {ss:List mc} {l:List (List ef)} (hT:Iu T ss l) (Aa:Ec ss):nF T fun u=>aw u ss:=by
 refine⟨fun u=>sS hT Aa u,fun u b h=> ?_,?_⟩
 ·obtain⟨s,hs,h1,h2,rfl,_⟩:=PC Aa.Vu h
  have hk:=Aa.Vu s hs
  have:=(Jq s.parts (u - s.first) 0 hk.parts (by omega) (by omega)).2.1
  have:=hk.hi
  omega
 ·obtain⟨S',NX,DG,RW,h,_⟩:=hT.ex
  exact⟨_,h⟩
section
variable {H:List ba} {T:PV} {cd:Int→Option (List Int)} {call:Xa}
theorem MQ (hT:nF T cd) {un repl:Int} (h:uX cd un repl=0):∃ R,og call ei [.pv T,.pv (i64 un),.pv (i64 repl)] H=some (.oc [.ptr H.length 0,.pv (i64 0)],H++[Ue T R un 0 0 false false])∧
 (un=2→R= .lit 1 ((cI cd un repl).map u8))∧(un≠2→cI cd un repl=[])∧(cI cd un repl).length≤8∧1≤un∧un≤3∧(un=2→cd repl=some (cI cd un repl)):=by
 obtain⟨R,rfl⟩:=hT.ptr
 have e1:Hu H 1 (.pv (.rp R 0)) (.pv .Kf)=some false:=rfl
 have hm:nw [.ptr H.length 0,.pv (i64 0)]= .oc [.ptr H.length 0,.pv (i64 0)]:=rfl
 rw[uX] at h
 by_cases h1:un < 1∨un > 3
 ·rw[if_pos h1] at h;cases h
 ·rw[if_neg h1] at h
  have d1:decide (un < 1)=false:=decide_eq_false (by omega)
  have d2:decide (un > 3)=false:=decide_eq_false (by omega)
  by_cases h2:un=2
  ·cases h3:cd repl with
   |none=>rw[if_pos ⟨h2,h3⟩] at h;cases h
   |some b=>
    have hen:=hT.enc repl
    rw[h3] at hen
    subst h2
    have d3:((2:Int)==2)=true:=rfl
    have hr:cI cd 2 repl=b:=by rw[cI,if_pos rfl,h3];rfl
    rw[hr]
    have g1:(H++[ba.box [.pv (.rp R 0),.pv (i64 2),.pv .fa,.pv (i64 0),.pv (i64 0),.pv (.bool false),.pv (.bool false)]])[H.length]? =some (.box [.pv (.rp R 0),.pv (i64 2),.pv .fa,.pv (i64 0),.pv (i64 0),.pv (.bool false),.pv (.bool false)]):=by simp
    have p1:=fun d=>we g1 d 0
    have s1:La (H++[ba.box [.pv (.rp R 0),.pv (i64 2),.pv .fa,.pv (i64 0),.pv (i64 0),.pv (.bool false),.pv (.bool false)]]) 1 (.ptr H.length 2) (.pv (.lit 1 (b.map u8)))=some (H++[Ue (.rp R 0) (.lit 1 (b.map u8)) 2 0 0 false false]):=by
     simp only[La,g1]
     rw[if_pos ⟨rfl,rfl⟩,if_pos (by simp)]
     simp[Aw,AV.cells,PV.cells,na]
    refine⟨.lit 1 (b.map u8),?_,fun _=>rfl,fun h=>absurd rfl h,hT.len _ _ h3,by omega,by omega,fun _=>rfl⟩
    simp -implicitDefEqProofs only[SX,sevalprocAttr,ei,e1,d1,d2,d3,hen,hm,na.eq_1,na.eq_2,List.set,Vd,p1,s1]
  ·have d3:(un==2)=false:=beq_false_of_ne h2
   have hr:cI cd un repl=[]:=by rw[cI,if_neg h2]
   refine⟨.fa,?_,fun h=>absurd h h2,fun _=>hr,by rw[hr];exact Nat.zero_le _,by omega,by omega,fun h=>absurd h h2⟩
   simp -implicitDefEqProofs only[SX,sevalprocAttr,ei,e1,d1,d2,d3,hm,na.eq_1,na.eq_2,List.set,Vd,Aw]
end
theorem pD {H:List ba} {c:Nat} {T R:PV} {un tot out:Int} {st fin:Bool} (hc:H[c]? =some (Ue T R un tot out st fin)):Vb H 6 (.ptr c 0)=some (.rp [T,i64 un,R,i64 tot,i64 out,.bool st,.bool fin] 0):=by
 show (match H[c]? with | some (.box cells)=>(Pa (Vb H 5) cells).map fun ps=>PV.rp ps 0 | _=>none)=_
 rw[hc];rfl
theorem FH {T R:PV} {un tot out:Int} {st fin:Bool}:eh [.rp [T,i64 un,R,i64 tot,i64 out,.bool st,.bool fin] 0]=some (i64 tot):=by kernel_rfl
theorem wH {T R:PV} {un tot out:Int} {st fin:Bool}:ai [.rp [T,i64 un,R,i64 tot,i64 out,.bool st,.bool fin] 0]=some (i64 out):=by kernel_rfl
theorem BT {T R:PV} {un tot out:Int} {st fin:Bool}:Ai [.rp [T,i64 un,R,i64 tot,i64 out,.bool st,.bool fin] 0]=some (.bool st):=by kernel_rfl
def yt:List mc:=[⟨[[(0,127)]],0⟩,⟨[[(194,223)],[(128,191)]],128⟩,⟨[[(225,225)],[(128,191)],[(128,191)]],4096⟩]
theorem oI:qf [.agg [.lit 2 (yt.map De)]]=some (.bool true):=by kernel_rfl
theorem bI:ze [.agg [.lit 2 (yt.map De)]]=some (.oc [.agg [.bool true,i64 0,i64 0],i64 0]):=by kernel_rfl
theorem AH:Eg [.agg [.lit 2 (yt.map De)]]=some (.oc [.agg [.bool true,i64 0,i64 0],i64 0]):=by kernel_rfl
theorem VL:(Pg yt).isSome=true:=by kernel_rfl
theorem jU:∃ T,oi []=some T∧nF T fun u=>aw u yt:=by
 obtain⟨l,hl⟩:=Option.isSome_iff_exists.1 VL
 obtain⟨Aa,T,h1,hT,_⟩:=NI (vH (by decide) (by decide) (by decide)) oI bI AH hl
 refine⟨T,?_,nF.of hT Aa⟩
 have hdoc:(.lit 2 (yt.map De):PV)= .lit 2 [.agg [.lit 1 [.lit 2 [.agg [i64 0,i64 127]]],i64 0],.agg [.lit 1 [.lit 2 [.agg [i64 194,i64 223]],.lit 2 [.agg [i64 128,i64 191]]],i64 128],.agg [.lit 1 [.lit 2 [.agg [i64 225,i64 225]],.lit 2 [.agg [i64 128,i64 191]],.lit 2 [.agg [i64 128,i64 191]]],i64 4096]]:=rfl
 rw[hdoc] at h1
 obtain⟨R,hR⟩:=(nF.of hT Aa).ptr
 subst hR
 simp -implicitDefEqProofs only[oi,SX,sevalprocAttr,sk,h1,na.eq_1,na.eq_2,List.set,Vd]
end Go.AM.B1
namespace Go.AM.B1
open Go.AM Go.AM.So
theorem IP {A:List ba} {c:Nat} (hA:cf A) {T R:PV} {un tot out:Int} {st fin:Bool} (k1:Nat) (n1:Bool) (k5:Nat) (n5:Bool):cf (Um A c (Ue T R un tot out st fin) k1 n1 k5 n5):=by
 intro n hn o ho
 rw[Qt] at hn
 unfold Um at ho
 rcases List.mem_append.1 ho with h | h
 ·rcases List.mem_or_eq_of_mem_set h with h | rfl
  ·exact hA _ (by omega) _ h
  ·exact yj _ _
 ·simp only[List.mem_cons,List.not_mem_nil,or_false] at h
  rcases h with rfl | rfl <;> rfl
theorem MF {T R:PV} {un tot out:Int} {st fin:Bool}:cf [Ue T R un tot out st fin]:=by
 intro n hn o ho
 simp only[List.mem_cons,List.not_mem_nil,or_false] at ho
 subst ho;exact yj _ _
theorem nv.lit (us:List Int) (n0:Nat):nv (.pv (.lit 1 (us.map i64))) us n0:=by
 refine⟨fun H=>by simp[Tb],fun H i h=> ?_,fun n hn=>Ha⟩
 simp only[wa]
 rw[if_pos ⟨trivial,by unfold Ga;rw[List.length_map];omega⟩,Int.toNat_natCast,List.getElem?_map,List.getElem?_eq_getElem h];rfl
theorem nv.fa (n0:Nat):nv (.pv .fa) [] n0:=⟨fun H=>rfl,fun H i h=>by simp at h,fun n hn=>Ha⟩
theorem nv.uq (us:List Int) {id n0:Nat} (nl:Bool) (h:id < n0):nv (.uq id nl 1 (us.map i64)) us n0:=by
 refine⟨fun H=>by simp[Tb],fun H i h=> ?_,fun n hn=>Qj (by omega)⟩
 simp only[wa]
 rw[if_pos ⟨trivial,by unfold Ga;rw[List.length_map];omega⟩,Int.toNat_natCast,List.getElem?_map,List.getElem?_eq_getElem h];rfl
theorem tX:aw 65 yt=some [65]:=by decide
theorem sX:aw 66 yt=some [66]:=by decide
theorem lW:aw 233 yt=some [195,169]:=by decide
theorem QT:aw 3000 yt=none:=by decide
theorem RO:ml (fun u=>aw u yt) 2 [63] 0 0 0 [] [] [65,233]=([65,195,169],[],false):=by
 simp only[ml,tX,lW];rfl
theorem kP:ml (fun u=>aw u yt) 2 [63] 2 3 0 [] [] [3000,66]=([63,66],[qF 2 3000 3],false):=by
 simp only[ml,QT,sX];rfl
theorem rJ:Zg []=some (.bool true):=by
 obtain⟨T,htw,hT⟩:=jU
 have hn:=MQ (H:=[]) (call:=Ca Ub 7) hT (un:=2) (repl:=63) (by kernel_rfl)
 rw[show cI (fun u=>aw u yt) 2 63=[63] by kernel_rfl] at hn
 obtain⟨R,hn,hR,hR2,hR3,_⟩:=hn
 have h62:∀ c H n,Ca Ub 7 62 [.ptr c 0,.pv (i64 n)] H=og (Ca Ub 6) Hb [.ptr c 0,.pv (i64 n)] H:=fun _ _ _=>rfl
 obtain⟨r,hr,acc,evs,st,n1,n5,rfl,hgo,hn1,hn5,_⟩:=ec (NC (c:=0) (call:=Ca Ub 7) (h62 0) MF (by simp) hT hR hR2 hR3 (nv.lit [65,233] 1) (tot:=0) (out:=0) (by decide) (by decide) (by decide) (by decide) (A:=[Ue T R 2 0 0 false false]) rfl)
 replace hgo:=RO.symm.trans hgo
 have q1:[65,195,169]=acc:=congrArg (fun x=>x.1) hgo
 have q2:[]=evs:=congrArg (fun x=>x.2.1) hgo
 have q3:false=st:=congrArg (fun x=>x.2.2) hgo
 subst q1 q2 q3
 have hn1:n1=false:=by cases n1 with | false=>rfl | true=>cases hn1 rfl
 subst hn1
 obtain⟨A2,hA2⟩:∃ A,A=Um [Ue T R 2 0 0 false false] 0 (Ue T R 2 2 3 false false) 3 false 0 n5:=⟨_,rfl⟩
 have hA2g:cf A2:=by rw[hA2];exact IP MF _ _ _ _
 obtain⟨r,hr2,acc,evs,st,m1,m5,rfl,hgo,hm1,hm5,_⟩:=ec (NC (c:=0) (call:=Ca Ub 7) (h62 0) hA2g (by rw[hA2];simp[Um]) hT hR hR2 hR3 (nv.lit [3000,66] _) (tot:=2) (out:=3) (by decide) (by decide) (by decide) (by decide) (by rw[hA2];rfl))
 replace hgo:=kP.symm.trans hgo
 have q1:[63,66]=acc:=congrArg (fun x=>x.1) hgo
 have q2:[qF 2 3000 3]=evs:=congrArg (fun x=>x.2.1) hgo
 have q3:false=st:=congrArg (fun x=>x.2.2) hgo
 subst q1 q2 q3
 have hm1:m1=false:=by cases m1 with | false=>rfl | true=>cases hm1 rfl
 have hm5:m5=false:=by cases m5 with | false=>rfl | true=>cases hm5 rfl
 subst hm1 hm5
 rw[show Um [Ue T R 2 0 0 false false] 0 (Ue T R 2 (0+([65,233]:List Int).length) (0+([65,195,169]:List Int).length) false false) ([65,195,169]:List Int).length false ([]:List PV).length n5=A2 from hA2.symm] at hr
 have hA2l:A2.length=3:=by rw[hA2];rfl
 rw[hA2l] at hr2
 obtain⟨A3,hA3⟩:∃ A,A=Um A2 0 (Ue T R 2 4 5 false false) 2 false 1 false:=⟨_,rfl⟩
 rw[show Um A2 0 (Ue T R 2 (2+([3000,66]:List Int).length) (3+([63,66]:List Int).length) false false) ([63,66]:List Int).length false [qF 2 3000 3].length false=A3 from hA3.symm] at hr2
 have hA3c:A3[0]? =some (Ue T R 2 4 5 false false):=by rw[hA3];exact Py (by omega) _ _ _ _ _
 have htp:=pD hA3c
 have htot:=FH (T:=T) (R:=R) (un:=2) (tot:=4) (out:=5) (st:=false) (fin:=false)
 have hout:=wH (T:=T) (R:=R) (un:=2) (tot:=4) (out:=5) (st:=false) (fin:=false)
 have hsm:Lj [.lit 5 [qF 2 3000 3],.lit 5 [.agg [.int .i64 4,.int .i64 2,.int .i64 1,.int .i64 3000,.int .i64 3]]]=some (.bool true):=by kernel_rfl
 have e0:∀ H:List ba,H=[Ue T R 2 0 0 false false]→Hu H 1 (.ptr 0 0) (.pv .Kf)=some false:=fun H h=>by subst h;rfl
 have e1:Hu [Ue T R 2 0 0 false false] 1 (.ptr 0 0) (.pv .Kf)=some false:=rfl
 have z0:((0:Int) != 0)=false:=rfl
 have z1:((0:Int)==0)=true:=rfl
 have z2:((4:Int)==4)=true:=rfl
 have z3:((5:Int)==5)=true:=rfl
 have y1:Dz .eql ⟨#[65,195,169]⟩ ⟨#[65,195,169]⟩=some (.bool true):=rfl
 have y2:Dz .eql ⟨#[63,66]⟩ ⟨#[63,66]⟩=some (.bool true):=rfl
 have b1:∀ H,Rx H (.uq 1 false 1 [u8 65,u8 195,u8 169])=some ⟨#[65,195,169]⟩:=fun H=>rfl
 have b2:∀ H,Rx H (.uq 3 false 1 [u8 63,u8 66])=some ⟨#[63,66]⟩:=fun H=>rfl
 have u1:∀ H n,Vb H 6 (.uq n false 5 [qF 2 3000 3])=some (.lit 5 [qF 2 3000 3]):=fun H n=>rfl
 obtain⟨call,hcall⟩:∃ x,x=Ca Ub 8:=⟨_,rfl⟩
 have k60:∀ un repl,call 60 [.pv T,.pv (i64 un),.pv (i64 repl)] []=og (Ca Ub 7) ei [.pv T,.pv (i64 un),.pv (i64 repl)] []:=fun _ _=>by rw[hcall];rfl
 have k61:∀ c U H,call 61 [.ptr c 0,U] H=og (Ca Ub 7) ud [.ptr c 0,U] H:=fun _ _ _=>by rw[hcall];rfl
 rw[← k60] at hn
 rw[← k61] at hr hr2
 replace hr:call 61 [.ptr 0 0,.pv (.lit 1 [.int .i64 65,.int .i64 233])] [Ue T R 2 0 0 false false]=some (.oc [.uq 1 false 1 [u8 65,u8 195,u8 169],.uq 2 n5 5 [],.pv (.int .i64 0)],A2):=hr
 replace hr2:call 61 [.ptr 0 0,.pv (.lit 1 [.int .i64 3000,.int .i64 66])] A2=some (.oc [.uq 3 false 1 [u8 63,u8 66],.uq 4 false 5 [qF 2 3000 3],.pv (.int .i64 0)],A3):=hr2
 rw[Zg,Xb,←hcall]
 clear k60 k61 hcall hA2 hA3
 obtain⟨B,hB⟩:∃ B,B=[Ue T R 2 0 0 false false]:=⟨_,rfl⟩
 rw[List.nil_append,List.length_nil,←hB] at hn
 rw[← hB] at hr e1
 simp -implicitDefEqProofs only[SX,sevalprocAttr,ij,htw,hn,hr,hr2,htot,hout,htp,hsm,e1,z0,z1,z2,z3,y1,y2,b1,b2,u1,na.eq_1,na.eq_2,List.set,Vd]
end Go.AM.B1
namespace Go.AM.B1
open Go.AM Go.AM.So
theorem qL {S:PV} {ss:List mc} {es:List PV} (hS:pb S ss es) (hz:pE ss):∃ T,kg [.agg [S]]=some (.oc [T,.bool true])∧
 (T= .Kf∨(Ec ss∧Fg ss∧bm ss∧∃ l,Pg ss=some l∧Iu T ss l∧∀ e∈l,pn e)):=by
 obtain⟨n,V,hr,_,hV1,ht⟩:=sH ss
 have hr:=hr S es hS
 obtain⟨T,ht,ho⟩:=ht (CX ss) (bo ss) (iM hS)
 have hcp:=lO hS hz
 have hS1:(AV.pv S).one=true:=by rcases hS.is with⟨h,_⟩ | h <;> rw[h] <;> rfl
 have s1:La [.box [.pv .fa]] 1 (.ptr 0 0) (.pv (.agg [V]))=some [.box [.pv V]]:=by simp[La,AV.cells,PV.cells,hV1,na]
 have d1:(n==n)=true:=by simp
 refine⟨T,?_,ho.imp (fun h=>h.2) (fun h=>h.2)⟩
 rcases ho with⟨h0,rfl⟩ | ⟨rfl,_,_,_,l,_,hT,_⟩
 ·have d2:(n != 0)=true:=by simp[h0]
  have e1:∀ H,Hu H 1 (.pv .Kf) (.pv .Kf)=some true:=fun H=>rfl
  have e2:∀ H,Hu H 0 (.pv (.bool true)) (.pv (.bool true))=some true:=fun H=>rfl
  simp -implicitDefEqProofs only[kg,SX,sevalprocAttr,Nh,hS1,yd,hcp,ht,hr,s1,d1,d2,e1,e2]
 ·have d2:((0:Int) != 0)=false:=rfl
  have d1:((0:Int)==0)=true:=rfl
  obtain⟨R,rfl⟩:∃ R,T= .rp R 0:=by
   obtain⟨S',NX,DG,RW,h,_⟩:=hT.ex
   exact⟨_,h⟩
  have e1:∀ H,Hu H 1 (.pv (.rp R 0)) (.pv .Kf)=some false:=fun H=>rfl
  have e2:∀ H,Hu H 0 (.pv (.bool false)) (.pv (.bool false))=some true:=fun H=>rfl
  simp -implicitDefEqProofs only[kg,SX,sevalprocAttr,Nh,hS1,yd,hcp,ht,hr,s1,d1,d2,e1,e2]
def RS (l:List Int):ByteArray:=⟨(l.map fun n=>UInt8.ofNat n.toNat).toArray⟩
theorem Mx:∀ l:List Int,bytesOf (l.map u8)=some (l.map fun n=>UInt8.ofNat n.toNat)
 | []=>rfl
 |x::l=>by
  show (bytesOf (l.map u8)).map (UInt8.ofNat x.toNat:: ·)=_
  rw[Mx l];rfl
theorem UG (H:List ba) (l:List Int):Rx H (.pv (.lit 1 (l.map u8)))=some (RS l):=by
 show (bytesOf (l.map u8)).map _=_
 rw[Mx];rfl
theorem LW (H:List ba) (id:Nat) (nl:Bool) (l:List Int):Rx H (.uq id nl 1 (l.map u8))=some (RS l):=by
 show (bytesOf (l.map u8)).map _=_
 rw[Mx];rfl
end Go.AM.B1
namespace Go.AM.B1
open Go.AM Go.AM.So
section
variable {call:Xa} {A2:List ba} {c:Nat}
end
end Go.AM.B1
namespace Go.AM.B1
open Go.AM Go.AM.So
theorem nv.lX {U:PV} {us:List Int} (h:Th 1 U (us.map i64)) (n0:Nat):nv (.pv U) us n0:=by
 refine⟨fun H=>by rw[h.len H,List.length_map],fun H i hi=> ?_,fun n hn=>Ha⟩
 rw[h.lit (i:=i) (by rw[List.length_map];exact hi)]
 simp only[wa]
 rw[if_pos ⟨trivial,by unfold Ga;rw[List.length_map];omega⟩,Int.toNat_natCast,List.getElem?_map,List.getElem?_eq_getElem hi];rfl
end Go.AM.B1
namespace Go.AM.B1
open Go.AM Go.AM.So
def eg (cd:Int→Option (List Int)):List Int→List Int→Option (List Int)
 |acc,[]=>some acc
 |acc,u::us=>match cd u with
  |none=>none
  |some b=>eg cd (acc++b) us
theorem RC (cd:Int→Option (List Int)):∀ (us vs acc:List Int),eg cd acc (us++vs)=(eg cd acc us).bind fun a=>eg cd a vs
 | [],vs,acc=>rfl
 |u::us,vs,acc=>by
  rw[List.cons_append,eg,eg]
  cases cd u with
  |none=>rfl
  |some b=>exact RC cd us vs (acc++b)
theorem Ax (cd:Int→Option (List Int)):∀ (us acc:List Int),eg cd acc us=(eg cd [] us).map (acc++ ·)
 | [],acc=>by simp[eg]
 |u::us,acc=>by
  rw[eg,eg]
  cases cd u with
  |none=>rfl
  |some b=>
   show eg cd (acc++b) us=(eg cd ([]++b) us).map _
   rw[Ax cd us (acc++b),Ax cd us ([]++b),Option.map_map]
   congr 1
   funext x;simp
theorem IF {cd:Int→Option (List Int)} (un:Int) (rb:List Int) (base out:Int):∀ (us acc:List Int) (i:Nat) (evs:List PV) (r:List Int),eg cd acc us=some r→ml cd un rb base out i acc evs us=(r,evs,false)
 | [],acc,i,evs,r,h=>by
   rw[eg] at h
   injection h with h
   rw[ml,h]
 |u::us,acc,i,evs,r,h=>by
  rw[eg] at h
  rw[ml]
  cases hc:cd u with
  |none=>rw[hc] at h;cases h
  |some b=>rw[hc] at h;exact IF un rb base out us (acc++b) (i+1) evs r h
theorem zR {S:PV} {ss:List mc} {es:List PV} (hS:pb S ss es) {U:PV} {us:List Int} (hU:Th 1 U (us.map i64)) (hlen:us.length * 8≤140737488355328) (hmax:∀ u∈us,u≤9223372036854775807):
 ∃ V k e,Cl [.agg [S],U]=some (.oc [V,i64 k,i64 e])∧(Ec ss→e=0→∃ acc,eg (fun u=>aw u ss) [] us=some acc∧∀ H,Rx H (.pv V)=some (RS acc)):=by
 have hS1:(AV.pv S).one=true:=by rcases hS.is with⟨h,_⟩ | h <;> rw[h] <;> rfl
 have hU1:(AV.pv U).one=true:=by rcases hU with⟨h,_⟩ | h <;> rw[h] <;> rfl
 have hu:=nv.lX hU 0
 have lU:=hu.len
 obtain⟨b,hb,hb'⟩:=Wi hS
 cases b with
 |false=>
  refine⟨.fa,0,84,?_,fun h=>by have:=hb'.2 h;cases this⟩
  have hm:nw [.pv .fa,.pv (i64 0),.pv (i64 84)]= .pv (.oc [.fa,i64 0,i64 84]):=rfl
  simp -implicitDefEqProofs only[Cl,SX,sevalprocAttr,Kq,hS1,yd,hb,hm]
 |true=>
  have Aa:=hb'.1 rfl
  have hT8:∀ u b,aw u ss=some b→b.length≤8:=fun u b h=>by
   obtain⟨s,hs,h1,h2,rfl,_⟩:=PC Aa.Vu h
   have hk:=Aa.Vu s hs
   have:=(Jq s.parts (u - s.first) 0 hk.parts (by omega) (by omega)).2.1
   have:=hk.hi
   omega
  suffices key:Ld (fun r=>∃ V k e,r= .oc [V,i64 k,i64 e]∧(e=0→∃ acc,eg (fun u=>aw u ss) [] us=some acc∧∀ H,Rx H (.pv V)=some (RS acc))) (Cl [.agg [S],U]) by
   obtain⟨r,h1,V,k,e,rfl,h2⟩:=ec key
   exact⟨V,k,e,h1,fun _=>h2⟩
  have hz1:(0 < 1)=True:=by simp
  have hloop:=fun (E:Tr) (h2:E.get 2= .pv (.rp [S] 0)) (h7:E.get 7= .uq 0 true 1 []) (h14:E.get 14= .pv U) (h15:E.get 15= .pv (i64 us.length)) (h16:E.get 16= .pv (i64 0))=>
   vn (call:=Ca (fun _=>none) 8) (b:=bk) (live:=[2,7,14,15,16]) (s:=⟨E,[.tok 1 0 true]⟩) (Q:=fun r=>(∃ E' acc nl,r=(.exit 0,⟨E',[.tok 1 acc.length nl]⟩)∧E'.get 7= .uq 0 nl 1 (acc.map u8)∧eg (fun u=>aw u ss) [] us=some acc∧(nl=true→acc=[]))∨∃ E' H k,r=(.ret,⟨E',H⟩)∧E'.get 4= .pv .fa∧E'.get 5= .pv (i64 k)∧E'.get 6= .pv (i64 100))
    (fun i t=>Jc [2,14,15] E t.env∧t.env.get 16= .pv (i64 i)∧∃ acc nl,t.H=[.tok 1 acc.length nl]∧t.env.get 7= .uq 0 nl 1 (acc.map u8)∧eg (fun u=>aw u ss) [] us=eg (fun u=>aw u ss) acc (us.drop i)∧(nl=true→acc=[])∧acc.length≤8 * i) us.length (by unfold qa;omega)
    (Sf.all rfl (by intro o ho;simp only[List.mem_cons,List.not_mem_nil,or_false] at ho;subst ho;rfl) (Fit.sub (.cons h2 Ha (.cons h7 (Qj (show 0 < 1 by decide)) (.cons h14 Ha (.cons h15 Ha (.cons h16 Ha (.nil _ _)))))) rfl) fun E' hE=>⟨Jc.sub hE rfl,by rw[hE 16 (by simp),h16];rfl,[],true,rfl,by rw[hE 7 (by simp),h7];rfl,rfl,fun _=>rfl,by simp⟩)
    (by
     rintro i ⟨E1,H1⟩ hi ⟨k1,k2,acc,nl,k3,k7,k4,k5,k6⟩
     simp only at k1 k2 k3 k7
     subst k3
     have g2:=(k1 2 (by simp)).trans h2
     have g14:=(k1 14 (by simp)).trans h14
     have g15:=(k1 15 (by simp)).trans h15
     have e1:decide ((i:Int) < (us.length:Int))=true:=Ea (by omega)
     have t1:IntKind.i64.wrap ((i:Int)+1)=((i+1:Nat):Int):=Hk (by omega)
     have hat:=fun H=>hu.LX H i hi
     have hen:=AL hS Aa (hmax us[i] (List.getElem_mem hi))
     rw[List.drop_eq_getElem_cons hi,eg] at k4
     generalize us[i]=u at *
     generalize hQ:RQ _ _ _ _=Q
     cases hcd:aw u ss with
     |none=>
      rw[hcd] at hen
      have e2:∀ H,Hu H 2 (.pv .fa) (.pv .fa)=some true:=fun H=>rfl
      have hen:Bj [.agg [S],i64 u]=some .fa:=hen
      simp -implicitDefEqProofs only[SX,sevalprocAttr,bk,g2,g14,g15,k2,k7,e1,hat,ab,yd,hen,e2]
      subst hQ
      exact .inr ⟨_,_,i,rfl,by simp[Tr.aa],by simp[Tr.aa],by simp[Tr.aa]⟩
     |some b=>
      rw[hcd] at hen k4
      have hb8:=hT8 u b hcd
      have e2:∀ H,Hu H 2 (.pv (.lit 1 (b.map u8))) (.pv .fa)=some false:=fun H=>rfl
      have hen:Bj [.agg [S],i64 u]=some (.lit 1 (b.map u8)):=hen
      have ap:Ob [.tok 1 acc.length nl] false .uq 1 false 1 (.uq 0 nl 1 (acc.map u8)) (.pv (.lit 1 (b.map u8)))=some (.uq 0 (nl&&(b.map u8).isEmpty) 1 ((acc++b).map u8),[.tok 1 (acc++b).length (nl&&(b.map u8).isEmpty)]):=by
       rw[VD (n:=acc.length) (nl':=nl) rfl (by rw[List.length_map]) (by unfold mb;rw[List.length_map,List.length_map];omega),List.map_append,List.length_map,List.length_map,List.length_append];rfl
      simp -implicitDefEqProofs only[SX,sevalprocAttr,bk,g2,g14,g15,k2,k7,e1,hat,ab,yd,hen,e2,ap,t1]
      subst hQ
      rw[Ii]
      generalize hEE:(Tr.set _ 16 _:Tr)=E2
      have kk:Jc [2,14,15] E E2:=by
       rw[← hEE]
       repeat refine Jc.set ?_ rfl
       exact k1
      have z16:E2.get 16= .pv (i64 (i+1:Nat)):=by rw[← hEE];simp[Tr.aa]
      have z7:E2.get 7= .uq 0 (nl&&(b.map u8).isEmpty) 1 ((acc++b).map u8):=by rw[← hEE];simp[Tr.aa]
      exact Sf.all rfl (by intro o ho;simp only[List.mem_cons,List.not_mem_nil,or_false] at ho;subst ho;rfl) (Fit.sub (.cons z16 Ha (.cons z7 (Qj (show 0 < 1 by decide)) (Fit.Te (l:=[2,14,15]) (.cons h2 Ha (.cons h14 Ha (.cons h15 Ha (.nil _ _)))) kk))) rfl) fun E' hE=>⟨kk.trans (Jc.sub hE rfl),by rw[hE 16 (by simp),z16],acc++b,_,rfl,by rw[hE 7 (by simp),z7],k4,fun h=>by
       rw[Bool.and_eq_true] at h
       rw[k5 h.1]
       cases b with
       |nil=>rfl
       |cons x y=>simp at h,by rw[List.length_append];omega⟩)
    (by
     rintro⟨E1,H1⟩ ⟨k1,k2,acc,nl,k3,k7,k4,k5,k6⟩
     simp only at k1 k2 k3 k7
     subst k3
     have g15:=(k1 15 (by simp)).trans h15
     rw[List.drop_length,eg] at k4
     have e1:decide ((us.length:Int) < (us.length:Int))=false:=Fa (by omega)
     generalize hQ:(fun r:Ex×St=>r.1.stop=true∧_)=Q
     simp -implicitDefEqProofs only[SX,sevalprocAttr,bk,g15,k2,e1]
     subst hQ
     exact⟨rfl,.inl ⟨_,acc,nl,rfl,by simp[Tr.aa,k7],k4,k5⟩⟩)
  generalize hQ:(fun r=>∃ V k e,r=PV.oc [V,i64 k,i64 e]∧_)=Q
  simp -implicitDefEqProofs only[Cl,SX,sevalprocAttr,Kq,hS1,yd,hb,az,qe,hz1,lU]
  generalize hEE:(Tr.set _ 16 _:Tr)=E
  refine xa (hloop E (by rw[← hEE];simp[Tr.aa]) (by rw[← hEE];simp[Tr.aa]) (by rw[← hEE];simp[Tr.aa]) (by rw[← hEE];simp[Tr.aa]) (by rw[← hEE];simp[Tr.aa])) ?_
  rintro r ⟨_,⟨E2,acc,nl,rfl,g7,hgo,hnl⟩ | ⟨E2,H2,k,rfl,g4,g5,g6⟩⟩
  ·have hm:nw [AV.uq 0 nl 1 (acc.map u8),.pv (.int .i64 0),.pv (.int .i64 0)]= .oc [.uq 0 nl 1 (acc.map u8),.pv (.int .i64 0),.pv (.int .i64 0)]:=rfl
   have htp:∀ H,Vb H 6 (.oc [.uq 0 nl 1 (acc.map u8),.pv (.int .i64 0),.pv (.int .i64 0)])=some (.oc [if nl then .fa else .lit 1 (acc.map u8),i64 0,i64 0]):=fun H=>rfl
   simp -implicitDefEqProofs only[SX,sevalprocAttr,g7,hm,htp]
   subst hQ
   refine⟨_,0,0,rfl,fun _=>⟨acc,hgo,fun H=> ?_⟩⟩
   cases nl with
   |true=>rw[hnl rfl];rfl
   |false=>exact UG H acc
  ·have hm:nw [.pv .fa,.pv (i64 k),.pv (i64 100)]= .pv (.oc [.fa,i64 k,i64 100]):=rfl
   simp -implicitDefEqProofs only[SX,sevalprocAttr,g4,g5,g6,hm]
   subst hQ
   exact⟨.fa,k,100,rfl,fun h=>by cases h⟩
end Go.AM.B1
namespace Go.AM.B1
open Go.AM Go.AM.So
theorem cO {U:PV} {us:List Int} (hU:Th 1 U (us.map i64)) {p n:Nat} (h:p+n≤us.length) {a m:Int} (ha:a=p) (hm:m=(p:Int)+n):∃ V,(∀ H,Ze H 1 (.pv U) (some a) (some m)=some (.pv V))∧Je 1 (.pv V)=some (((us.drop p).take n).map i64):=by
 subst ha hm
 rcases hU with⟨rfl,h0⟩ | rfl
 ·have:us=[]:=by simpa using h0
  subst this
  simp only[List.length_nil] at h
  obtain⟨rfl,rfl⟩:p=0∧n=0:=by omega
  exact⟨.fa,fun H=>by simp[Ze],rfl⟩
 ·refine⟨.lit 1 (((us.drop p).take n).map i64),fun H=> ?_,by simp[Je]⟩
  simp only[Ze,Option.getD_some]
  rw[if_pos ⟨by decide,trivial,by omega,by omega,by rw[List.length_map];omega⟩]
  have e1:((p:Int)+n).toNat=p+n:=by omega
  rw[e1,Int.toNat_natCast,←List.map_take,←List.map_drop,List.drop_take,show p+n - p=n by omega]
theorem bR (x:Int) (k:Nat):∃ y:Int,No true [.pv (i64 x),.pv (.int .i64 0)]=some (i64 y)∧∃ n:Nat,n≤k∧No false [.pv (i64 y),.pv (i64 k)]=some (i64 n):=by
 refine⟨if (0:Int) > x then 0 else x,rfl,?_⟩
 generalize hy:(if (0:Int) > x then (0:Int) else x)=y
 have h0:0≤y:=by rw[← hy];split <;> omega
 refine⟨(if (k:Int) < y then (k:Int) else y).toNat,by split <;> omega,?_⟩
 have:(((if (k:Int) < y then (k:Int) else y).toNat:Nat):Int)=if (k:Int) < y then (k:Int) else y:=by split <;> omega
 rw[this];rfl
section
variable {call call1 call2:Xa}
theorem qR (h61:∀ U H,call 61 [.ptr 0 0,U] H=og call1 ud [.ptr 0 0,U] H) (h62:∀ H n,call1 62 [.ptr 0 0,.pv (i64 n)] H=og call2 Hb [.ptr 0 0,.pv (i64 n)] H)
 {T R:PV} {cd:Int→Option (List Int)} (hT:nF T cd) {U C:PV} {us cuts:List Int} (hU:Th 1 U (us.map i64)) (hC:Th 1 C (cuts.map i64)) (hus:us.length≤65536) (hcl:cuts.length * 8≤140737488355328) {W:List Int} (hW:eg cd [] us=some W)
 {E:Tr} (h1:E.get 1= .pv U) (h2:E.get 2= .pv C) (hw:∃ w,E.get 9= .pv w) (h12:E.get 12= .ptr 0 0) (h14:E.get 14= .uq 1 true 1 []) (h15:E.get 15= .pv (i64 0)) (h16:E.get 16= .pv (i64 0)):
 Ld (fun r=>r.1.stop=true∧∃ E' tot nl,r=(.exit 0,⟨E',[Ue T R 3 tot W.length false false,.tok 1 W.length nl]⟩)∧Jc [1,2,9,12] E E'∧E'.get 14= .uq 1 nl 1 (W.map u8))
  (ta call (.loop [1,2,9,12,14,15,16] Cd) ⟨E,[Ue T R 3 0 0 false false,.tok 1 0 true]⟩):=by
 obtain⟨w9,h9⟩:=hw
 have hgd:∀ tot out k nl,∀ o∈[Ue T R 3 tot out false false,ba.tok 1 k nl],oa 2 o=some o:=fun tot out k nl o ho=>by
  simp only[List.mem_cons,List.not_mem_nil,or_false] at ho
  rcases ho with rfl | rfl
  ·exact yj _ _
  ·rfl
 have hcut:Fit 2 [1,2,9,12] E:= .cons h1 Ha (.cons h2 Ha (.cons h9 Ha (.cons h12 (Qo (show 0 < 2 by decide)) (.nil _ _))))
 have lU:=(nv.lX hU 0).len
 have lC:=(nv.lX hC 0).len
 refine vn (fun i t=>Jc [1,2,9,12] E t.env∧t.env.get 16= .pv (i64 i)∧∃ (p:Nat) (acc:List Int) (nl:Bool),t.H=[Ue T R 3 p acc.length false false,.tok 1 acc.length nl]∧t.env.get 15= .pv (i64 p)∧t.env.get 14= .uq 1 nl 1 (acc.map u8)∧
  eg cd acc (us.drop p)=some W∧(nl=true→acc=[])∧p≤us.length∧acc.length≤8 * p∧(i=cuts.length+1→p=us.length)) (cuts.length+1) (by unfold qa;omega) ?_ ?_ ?_
 ·exact Sf.all rfl (hgd _ _ _ _) (Fit.sub (.cons h16 Ha (.cons h15 Ha (.cons h14 (Qj (show 1 < 2 by decide)) hcut))) rfl) fun E' hE=>⟨Jc.sub hE rfl,by rw[hE 16 (by simp),h16];rfl,0,[],true,rfl,by rw[hE 15 (by simp),h15];rfl,by rw[hE 14 (by simp),h14];rfl,hW,fun _=>rfl,by omega,by simp,by omega⟩
 ·rintro i ⟨E1,H1⟩ hi ⟨k1,k2,p,acc,nl,k3,k15,k14,k4,k5,k6,k7,k8⟩
  simp only at k1 k2 k3 k15 k14
  subst k3
  have g1:=(k1 1 (by simp)).trans h1
  have g2:=(k1 2 (by simp)).trans h2
  have g12:=(k1 12 (by simp)).trans h12
  have e1:decide ((i:Int)≤(cuts.length:Int))=true:=decide_eq_true (by omega)
  have t1:IntKind.i64.wrap ((i:Int)+1)=((i+1:Nat):Int):=Hk (by omega)
  have t2:IntKind.i64.wrap ((us.length:Int) - (p:Int))=((us.length - p:Nat):Int):=by rw[Ba (by omega)];omega
  obtain⟨B,hB⟩:∃ B,B=[Ue T R 3 p acc.length false false,ba.tok 1 acc.length nl]:=⟨_,rfl⟩
  have hBl:B.length=2:=by rw[hB];rfl
  have tail:∀ n:Nat,n≤us.length - p→∃ (b:List Int) (V:PV) (A A2 A3 tl:List ba) (n1 n5 nl':Bool) (seg:List PV),(∀ H,Ze H 1 (.pv U) (some (p:Int)) (some ((p+n:Nat):Int))=some (.pv V))∧
   Ob (B++[.tok 1 0 false]) false .uq 1 false 8 (.uq 2 false 1 []) (.pv V)=some (.uq 2 false 1 seg,A)∧
   call 61 [.ptr 0 0,.uq 2 false 1 seg] A=some (.oc [.uq 3 n1 1 (b.map u8),.uq 4 n5 5 [],.pv (i64 0)],A2)∧
   Ob A2 false .uq 1 false 1 (.uq 1 nl 1 (acc.map u8)) (.uq 3 n1 1 (b.map u8))=some (.uq 1 nl' 1 ((acc++b).map u8),A3)∧
   A3=[Ue T R 3 (p+n:Nat) (acc++b).length false false,.tok 1 (acc++b).length nl']++tl∧
   Vb A3 6 (.ptr 0 0)=some (.rp [T,i64 3,R,i64 (p+n:Nat),i64 (acc++b).length,.bool false,.bool false] 0)∧
   eg cd (acc++b) (us.drop (p+n))=some W∧(nl'=true→acc++b=[])∧(acc++b).length≤8 * (p+n):=by
   intro n hn
   obtain⟨seg,hseg⟩:∃ l,l=(us.drop p).take n:=⟨_,rfl⟩
   have hsl:seg.length=n:=by rw[hseg,List.length_take,List.length_drop];omega
   obtain⟨V,v1,v2⟩:=cO hU (p:=p) (n:=n) (by omega) (a:=(p:Int)) (m:=((p+n:Nat):Int)) rfl (by omega)
   rw[← hseg] at v2
   have hsplit:us.drop p=seg++us.drop (p+n):=by rw[hseg,←List.drop_drop,List.take_append_drop]
   rw[hsplit,RC,Ax cd seg acc] at k4
   cases hb:eg cd [] seg with
   |none=>rw[hb] at k4;cases k4
   |some b=>
    rw[hb] at k4
    have hgo:=IF (cd:=cd) 3 [] (p:Int) (acc.length:Int) seg [] 0 [] b hb
    obtain⟨A,hA⟩:∃ A,A=[Ue T R 3 p acc.length false false,ba.tok 1 acc.length nl,.tok 1 n false]:=⟨_,rfl⟩
    have hAg:cf A:=by
     rw[hA];intro m hm o ho
     simp only[List.mem_cons,List.not_mem_nil,or_false] at ho
     rcases ho with rfl | rfl | rfl
     ·exact yj _ _
     ·rfl
     ·rfl
    have hAl:A.length=3:=by rw[hA];rfl
    obtain⟨r,hfd,acc',evs',st',n1,n5,rfl,hgo',hn1,hn5,hal⟩:=ec (NC (c:=0) (call:=call1) (call':=call2) h62 hAg (by omega) hT (R:=R) (un:=3) (rb:=[]) (fun h=>by cases h) (fun _=>rfl) (by decide) (nv.uq seg (id:=2) false (by omega)) (tot:=(p:Int)) (out:=(acc.length:Int)) (by omega) (by omega) (by omega) (by omega) (A:=A) (by rw[hA];rfl))
    replace hgo':=hgo.symm.trans hgo'
    have q1:b=acc':=congrArg (fun x=>x.1) hgo'
    have q2:[]=evs':=congrArg (fun x=>x.2.1) hgo'
    have q3:false=st':=congrArg (fun x=>x.2.2) hgo'
    subst q1 q2 q3
    rw[← h61,hAl] at hfd
    have hpn:(p:Int)+seg.length=((p+n:Nat):Int):=by omega
    have hab:(acc.length:Int)+b.length=((acc++b).length:Int):=by rw[List.length_append];omega
    rw[hpn,hab] at hfd
    refine⟨b,V,A,_,_,[.tok 1 n false,.tok 1 b.length n1,.tok 5 0 n5],n1,n5,nl&&(b.map u8).isEmpty,seg.map i64,v1,?_,hfd,?_,rfl,?_,k4,?_,by rw[List.length_append];omega⟩
    ·rw[hB,hA]
     simp only[Ob,Bool.false_eq_true,if_false,List.cons_append,List.nil_append,List.getElem?_cons_succ,List.getElem?_cons_zero,v2,Option.bind_some]
     rw[if_pos ⟨trivial,trivial,rfl,by unfold mb;rw[List.length_map];simp;omega⟩]
     simp[hsl]
    ·have hel:Je 1 (.uq 3 n1 1 (b.map u8))=some (b.map u8):=rfl
     have hg1:(Um A 0 (Ue T R 3 (p+n:Nat) (acc++b).length false false) b.length n1 ([]:List PV).length n5)[1]? =some (.tok 1 acc.length nl):=by rw[hA];rfl
     simp only[Ob,Bool.false_eq_true,if_false,hg1,hel,Option.bind_some]
     rw[if_pos ⟨trivial,trivial,by rw[List.length_map],by unfold mb;rw[List.length_map,List.length_map];omega⟩,List.map_append,List.length_map,List.length_map,←List.length_append,hA]
     rfl
    ·exact pD rfl
    ·intro h
     rw[Bool.and_eq_true] at h
     rw[k5 h.1]
     cases b with
     |nil=>rfl
     |cons x y=>simp at h
  have z0:((0:Int) != 0)=false:=rfl
  have z0':(((0:Nat):Int) != 0)=false:=rfl
  have l5:∀ H k n5,Tb H 0 (.uq k n5 5 [])=some 0:=fun _ _ _=>rfl
  have hfr:∀ H,fresh H .uq 1 false 0 []=some (.uq H.length false 1 [],H++[.tok 1 0 false]):=fun H=>rfl
  by_cases hic:i < cuts.length
  ·have e2:decide ((i:Int) < (cuts.length:Int))=true:=Ea (by omega)
   have hat:=fun H=>(nv.lX hC 0).LX H i hic
   obtain⟨y,y1,n,hn,y2⟩:=bR cuts[i] (us.length - p)
   obtain⟨b,V,A,A2,A3,tl,n1,n5,nl',seg,v1,v2,v3,v4,v5,v6,v7,v8,v9⟩:=tail n hn
   have t3:IntKind.i64.wrap ((p:Int)+(n:Int))=((p+n:Nat):Int):=by rw[Ba (by omega)];omega
   have lu:∀ H,Tb H 0 (.uq 1 nl' 1 ((acc++b).map u8))=some (acc++b).length:=fun H=>by simp only[Tb,List.length_map]
   have htot:=FH (T:=T) (R:=R) (un:=3) (tot:=(p+n:Nat)) (out:=(acc++b).length) (st:=false) (fin:=false)
   have hout:=wH (T:=T) (R:=R) (un:=3) (tot:=(p+n:Nat)) (out:=(acc++b).length) (st:=false) (fin:=false)
   have x1:(((acc++b).length:Int) != ((acc++b).length:Int))=false:=by simp
   have x2:(((p+n:Nat):Int) != ((p+n:Nat):Int))=false:=by simp
   generalize hQ:RQ _ _ _ _=Q
   rw[← hB]
   generalize hL:(acc++b).length=L at *
   generalize hLu:(acc++b).map u8=Lu at *
   generalize hbu:b.map u8=bu at *
   simp -implicitDefEqProofs only[SX,sevalprocAttr,Cd,g1,g2,g12,k2,k14,k15,e1,lU,lC,t2,e2,hat,ab,y1,y2,hfr,hBl,xj,Am,v1,v2,v3,v4,v6,t1,t3,lu,l5,htot,hout,x1,x2,z0,z0']
   subst hQ
   rw[Ii]
   generalize hEE:(Tr.set _ 16 _:Tr)=E2
   have kk:Jc [1,2,9,12] E E2:=by
    rw[← hEE]
    repeat refine Jc.set ?_ rfl
    exact k1
   have z16:E2.get 16= .pv (i64 (i+1:Nat)):=by rw[← hEE];simp[Tr.aa]
   have z15:E2.get 15= .pv (i64 (p+n:Nat)):=by rw[← hEE];simp[Tr.aa]
   have z14:E2.get 14= .uq 1 nl' 1 Lu:=by rw[← hEE];simp[Tr.aa]
   rw[v5,←hLu] at *
   rw[← hL]
   exact Sf.front rfl (hgd _ _ _ _) (Fit.sub (.cons z16 Ha (.cons z15 Ha (.cons z14 (Qj (show 1 < 2 by decide)) (hcut.Te kk)))) rfl) fun E' hE=>⟨kk.trans (Jc.sub hE rfl),by rw[hE 16 (by simp),z16],p+n,acc++b,nl',rfl,by rw[hE 15 (by simp),z15],by rw[hE 14 (by simp),z14],v7,v8,by omega,by rw[hL];exact v9,by omega⟩
  ·have e2:decide ((i:Int) < (cuts.length:Int))=false:=Fa (by omega)
   obtain⟨n,hnd⟩:∃ n,n=us.length - p:=⟨_,rfl⟩
   have hn:n≤us.length - p:=by omega
   rw[← hnd] at t2
   obtain⟨b,V,A,A2,A3,tl,n1,n5,nl',seg,v1,v2,v3,v4,v5,v6,v7,v8,v9⟩:=tail n hn
   have t3:IntKind.i64.wrap ((p:Int)+(n:Int))=((p+n:Nat):Int):=by rw[Ba (by omega)];omega
   have lu:∀ H,Tb H 0 (.uq 1 nl' 1 ((acc++b).map u8))=some (acc++b).length:=fun H=>by simp only[Tb,List.length_map]
   have htot:=FH (T:=T) (R:=R) (un:=3) (tot:=(p+n:Nat)) (out:=(acc++b).length) (st:=false) (fin:=false)
   have hout:=wH (T:=T) (R:=R) (un:=3) (tot:=(p+n:Nat)) (out:=(acc++b).length) (st:=false) (fin:=false)
   have x1:(((acc++b).length:Int) != ((acc++b).length:Int))=false:=by simp
   have x2:(((p+n:Nat):Int) != ((p+n:Nat):Int))=false:=by simp
   generalize hQ:RQ _ _ _ _=Q
   rw[← hB]
   generalize hL:(acc++b).length=L at *
   generalize hLu:(acc++b).map u8=Lu at *
   generalize hbu:b.map u8=bu at *
   simp -implicitDefEqProofs only[SX,sevalprocAttr,Cd,g1,g2,g12,k2,k14,k15,e1,lU,lC,t2,e2,hfr,hBl,xj,Am,v1,v2,v3,v4,v6,t1,t3,lu,l5,htot,hout,x1,x2,z0,z0']
   subst hQ
   rw[Ii]
   generalize hEE:(Tr.set _ 16 _:Tr)=E2
   have kk:Jc [1,2,9,12] E E2:=by
    rw[← hEE]
    repeat refine Jc.set ?_ rfl
    exact k1
   have z16:E2.get 16= .pv (i64 (i+1:Nat)):=by rw[← hEE];simp[Tr.aa]
   have z15:E2.get 15= .pv (i64 (p+n:Nat)):=by rw[← hEE];simp[Tr.aa]
   have z14:E2.get 14= .uq 1 nl' 1 Lu:=by rw[← hEE];simp[Tr.aa]
   rw[v5,←hLu] at *
   rw[← hL]
   exact Sf.front rfl (hgd _ _ _ _) (Fit.sub (.cons z16 Ha (.cons z15 Ha (.cons z14 (Qj (show 1 < 2 by decide)) (hcut.Te kk)))) rfl) fun E' hE=>⟨kk.trans (Jc.sub hE rfl),by rw[hE 16 (by simp),z16],p+n,acc++b,nl',rfl,by rw[hE 15 (by simp),z15],by rw[hE 14 (by simp),z14],v7,v8,by omega,by rw[hL];exact v9,fun _=>by omega⟩
 ·rintro⟨E1,H1⟩ ⟨k1,k2,p,acc,nl,k3,k15,k14,k4,k5,k6,k7,k8⟩
  simp only at k1 k2 k3 k15 k14
  subst k3
  have g2:=(k1 2 (by simp)).trans h2
  have hp:=k8 rfl
  rw[hp,List.drop_length,eg] at k4
  injection k4 with k4
  subst k4
  have e1:decide (((cuts.length+1:Nat):Int)≤(cuts.length:Int))=false:=decide_eq_false (by omega)
  generalize hQ:(fun r:Ex×St=>r.1.stop=true∧_)=Q
  simp -implicitDefEqProofs only[SX,sevalprocAttr,Cd,g2,k2,e1,lC]
  subst hQ
  refine⟨rfl,_,_,nl,rfl,?_,by simp[Tr.aa,k14]⟩
  repeat refine Jc.set ?_ rfl
  exact k1
end
end Go.AM.B1
namespace Go.AM.B1
open Go.AM Go.AM.So
theorem JU (x:ByteArray):Dz .eql x x=some (.bool true):=by
 show some (PV.bool (x.data.toList==x.data.toList))=_
 rw[OS]
theorem aJ {S:PV} {ss:List mc} {es:List PV} (hS:pb S ss es) (hz:pE ss) {U C:PV} {us cuts:List Int} (hU:Th 1 U (us.map i64)) (hC:Th 1 C (cuts.map i64)) (hul:us.length * 8≤140737488355328) (hcl:cuts.length * 8≤140737488355328) (hmax:∀ u∈us,u≤9223372036854775807):
 Xb Ra Bb [.agg [S],U,C]=some (.bool true):=by
 have hS1:(AV.pv S).one=true:=by rcases hS.is with⟨h,_⟩ | h <;> rw[h] <;> rfl
 have hU1:(AV.pv U).one=true:=by rcases hU with⟨h,_⟩ | h <;> rw[h] <;> rfl
 have hfx:=rJ
 obtain⟨T,hmd,ho⟩:=qL hS hz
 obtain⟨V,k,e,htx,hok'⟩:=zR hS hU hul hmax
 have lU:=(nv.lX hU 0).len
 rw[Xb]
 obtain⟨call,hcall⟩:∃ x,x=Ca Ra 8:=⟨_,rfl⟩
 rw[← hcall]
 have k60:∀ T un repl H,call 60 [.pv T,.pv (i64 un),.pv (i64 repl)] H=og (Ca Ra 7) ei [.pv T,.pv (i64 un),.pv (i64 repl)] H:=fun _ _ _ _=>by rw[hcall];rfl
 have k61:∀ c U H,call 61 [.ptr c 0,U] H=og (Ca Ra 7) ud [.ptr c 0,U] H:=fun _ _ _=>by rw[hcall];rfl
 have h62:∀ c H n,Ca Ra 7 62 [.ptr c 0,.pv (i64 n)] H=og (Ca Ra 6) Hb [.ptr c 0,.pv (i64 n)] H:=fun _ _ _=>rfl
 rcases ho with rfl | ⟨Aa,_,_,l,_,hT,_⟩
 ·have e1:∀ H,Hu H 1 (.pv .Kf) (.pv .Kf)=some true:=fun H=>rfl
  simp -implicitDefEqProofs only[SX,sevalprocAttr,Bb,hfx,hmd,hS1,yd,htx,e1]
 ·have hT:=nF.of hT Aa
  obtain⟨R0,hR0⟩:=hT.ptr
  subst hR0
  have e1:∀ H,Hu H 1 (.pv (.rp R0 0)) (.pv .Kf)=some false:=fun H=>rfl
  by_cases he:e=0
  ·obtain⟨W,hW,hVs⟩:=hok' Aa he
   subst he
   have z0:((0:Int) != 0)=false:=rfl
   by_cases hlen:us.length > 65536
   ·have d1:decide ((us.length:Int) > 65536)=true:=decide_eq_true (by omega)
    simp -implicitDefEqProofs only[SX,sevalprocAttr,Bb,hfx,hmd,hS1,yd,htx,e1,lU,d1,z0]
   ·have d1:decide ((us.length:Int) > 65536)=false:=decide_eq_false (by omega)
    obtain⟨R,hnew,_⟩:=MQ (H:=[]) (call:=Ca Ra 7) hT (un:=3) (repl:= -1) rfl
    rw[← k60] at hnew
    obtain⟨B,hB⟩:∃ B,B=[Ue (.rp R0 0) R 3 0 0 false false]:=⟨_,rfl⟩
    have hBl:B.length=1:=by rw[hB];rfl
    have eB:Hu B 1 (.ptr 0 0) (.pv .Kf)=some false:=by rw[hB];rfl
    replace hnew:call 60 [.pv (.rp R0 0),.pv (.int .i64 3),.pv (.int .i64 (-1))] []=some (.oc [.ptr 0 0,.pv (i64 0)],B):=by rw[hB];exact hnew
    have hloop:=fun E h1 h2 hw h12 h14 h15 h16=>qR (call:=call) (call1:=Ca Ra 7) (call2:=Ca Ra 6) (k61 0) (h62 0) hT (R:=R) hU hC (by omega) hcl hW (E:=E) h1 h2 hw h12 h14 h15 h16
    have hB2:[Ue (.rp R0 0) R 3 0 0 false false,ba.tok 1 0 true]=B++[.tok 1 0 true]:=by rw[hB];rfl
    rw[hB2] at hloop
    have hz1:(0 < 1)=True:=by simp
    clear k60 k61 hcall
    suffices key:Ld (fun r=>Vb r.2 deep r.1=some (.bool true)) (og call Bb [.pv (.agg [S]),.pv U,.pv C] []) by
     obtain⟨r,hr1,hr2⟩:=ec key
     show (og call Bb [.pv (.agg [S]),.pv U,.pv C] []).bind _=_
     rw[hr1];exact hr2
    generalize hQ:(fun r:AV×List ba=>Vb r.2 deep r.1=some (PV.bool true))=Q
    simp -implicitDefEqProofs only[SX,sevalprocAttr,Bb,hfx,hmd,hS1,hU1,yd,htx,e1,lU,d1,hnew,z0,eB,az,qe,hz1,hBl]
    generalize hEE:(Tr.set _ 16 _:Tr)=E
    refine xa (hloop E (by rw[← hEE];simp[Tr.aa]) (by rw[← hEE];simp[Tr.aa]) ⟨V,by rw[← hEE];simp[Tr.aa]⟩ (by rw[← hEE];simp[Tr.aa]) (by rw[← hEE];simp[Tr.aa]) (by rw[← hEE];simp[Tr.aa]) (by rw[← hEE];simp[Tr.aa])) ?_
    have g9:E.get 9= .pv V:=by rw[← hEE];simp[Tr.aa]
    have g12:E.get 12= .ptr 0 0:=by rw[← hEE];simp[Tr.aa]
    rintro r ⟨_,E2,tot,nl,rfl,kk,q14⟩
    have r9:=(kk 9 (by simp)).trans g9
    have r12:=(kk 12 (by simp)).trans g12
    have hbw:=fun H=>LW H 1 nl W
    have hse:=JU (RS W)
    have htp:Vb [Ue (.rp R0 0) R 3 tot W.length false false,.tok 1 W.length nl] 6 (.ptr 0 0)=some (.rp [.rp R0 0,i64 3,R,i64 tot,i64 W.length,.bool false,.bool false] 0):=pD rfl
    have hst:=BT (T:= .rp R0 0) (R:=R) (un:=3) (tot:=tot) (out:=W.length) (st:=false) (fin:=false)
    generalize [Ue (.rp R0 0) R 3 tot W.length false false,.tok 1 W.length nl]=HF at *
    simp -implicitDefEqProofs only[SX,sevalprocAttr,r9,r12,q14,hbw,hVs,hse,htp,hst]
    subst hQ
    rfl
  ·have d2:(e != 0)=true:=by simp[he]
   simp -implicitDefEqProofs only[SX,sevalprocAttr,Bb,hfx,hmd,hS1,yd,htx,e1,d2]
end Go.AM.B1
set_option maxRecDepth 100000
namespace Go.Proofs.YtdglpnpkgngcdaaGreat
open Go.ChangeShapes Go.WideShapes Go.ChangeAt Go.RowKit Go.AM
theorem kU:Tryz.prog.cellsOf 44=2:=by kernel_rfl
theorem DV:Tryz.prog.bytesOf 44=16:=by kernel_rfl
theorem FU:Tryz.prog.cellsOf 42=1:=by kernel_rfl
theorem tU:Tryz.prog.bytesOf 42=24:=by kernel_rfl
theorem iU:Tryz.prog.cellsOf 41=2:=by kernel_rfl
theorem JV:Tryz.prog.bytesOf 41=32:=by kernel_rfl
theorem VT {g:Nat} {row:List PV} (h:Sh Tryz.prog (g+2) 44 row):∃ p:Int×Int,Sl Tryz.prog 44 row=B1.pr p:=by
 rw[Uz Tryz.underlying44]
 obtain⟨rows,hl,rfl,hr⟩:=DA Tryz.underlying44 h
 match rows,hl with
 | [x,y],_=>
   obtain⟨a,rfl,_⟩:=oD Tryz.underlying3 (hr 0 _ x rfl rfl)
   obtain⟨b,rfl,_⟩:=oD Tryz.underlying3 (hr 1 _ y rfl rfl)
   exact⟨(a,b),rfl⟩
theorem yS {α β:Type} {f:α→β}:∀ {es:List β},(∀ e∈es,∃ a,e=f a)→∃ l:List α,es=l.map f
 | [],_=>⟨[],rfl⟩
 |e::es,h=>by
  obtain⟨a,ha⟩:=h e (by simp)
  obtain⟨l,hl⟩:=yS (es:=es) fun e he=>h e (by simp[he])
  exact⟨a::l,by rw[ha,hl];rfl⟩
theorem TS {g:Nat} {row:List PV} (h:Sh Tryz.prog (g+3) 42 row):∃ (V:PV) (l:List (Int×Int)),row=[V]∧B1.Jm V l:=by
 rcases Qy Tryz.underlying42 h with rfl | ⟨es,rfl,h1,h2,h3⟩
 ·exact⟨_,[],rfl,.inl ⟨rfl,rfl⟩,Nat.zero_le _⟩
 ·obtain⟨l,hl⟩:=yS (f:=B1.pr) (es:=es.map (Sl Tryz.prog 44)) (by
   intro e he
   obtain⟨r,hr,rfl⟩:=List.mem_map.1 he
   exact VT (h3 r hr))
  have hlen:l.length=es.length:=by have:=congrArg List.length hl;simpa using this.symm
  refine⟨_,l,rfl,.inr (by rw[kU,hl]),?_⟩
  rw[hlen]
  rw[DV] at h2
  exact Nat.le_trans h2 (by decide)
theorem YH {R A:Type} {f:R→PV} {Q:PV→A→Prop}:∀ (es:List R),(∀ r∈es,∃ a,Q (f r) a)→∃ l:List A,l.length=es.length∧∀ (k:Nat) v a,(es.map f)[k]? =some v→l[k]? =some a→Q v a
 | [],_=>⟨[],rfl,by simp⟩
 |r::es,h=>by
  obtain⟨a,ha⟩:=h r (by simp)
  obtain⟨l,h1,h2⟩:=YH es fun x hx=>h x (by simp[hx])
  refine⟨a::l,by simp[h1],?_⟩
  intro k v b hv hb
  match k with
  |0=>simp at hv hb;subst hv hb;exact ha
  |k+1=>exact h2 k v b (by simpa using hv) (by simpa using hb)
theorem UQ {g:Nat} {row:List PV} (h:Sh Tryz.prog (g+4) 39 row):∃ (P:PV) (ls:List (List (Int×Int))) (ps:List PV),row=[P]∧B1.nf P ls ps∧ls.length * 24≤140737488355328:=by
 rcases Qy Tryz.underlying39 h with rfl | ⟨es,rfl,h1,h2,h3⟩
 ·exact⟨_,[],[],rfl,⟨.inl ⟨rfl,rfl⟩,rfl,by simp,by simp⟩,by simp⟩
 ·obtain⟨l,hl,hq⟩:=YH (f:=Sl Tryz.prog 42) (Q:=B1.Jm) es (by
   intro r hr
   obtain⟨V,l,rfl,hV⟩:=TS (h3 r hr)
   rw[LI Tryz.underlying42]
   exact⟨l,hV⟩)
  have hz:l.length * 24≤140737488355328:=by rw[tU] at h2;rw[hl];exact Nat.le_trans h2 (by decide)
  exact⟨_,l,es.map (Sl Tryz.prog 42),rfl,⟨.inr (by rw[FU]),by rw[List.length_map,hl],hq,by unfold maxLen;omega⟩,hz⟩
theorem WS {g:Nat} {row:List PV} (h:Sh Tryz.prog (g+5) 41 row):∃ (s:B1.mc),(∃ P ps,B1.bf (Sl Tryz.prog 41 row) s P ps)∧s.parts.length * 24≤140737488355328:=by
 rw[Uz Tryz.underlying41]
 obtain⟨rows,hl,rfl,hr⟩:=DA Tryz.underlying41 h
 match rows,hl with
 | [x,y],_=>
   obtain⟨P,ls,ps,rfl,hP,hz⟩:=UQ (hr 0 _ x rfl rfl)
   obtain⟨b,rfl,_⟩:=oD Tryz.underlying3 (hr 1 _ y rfl rfl)
   exact⟨⟨ls,b⟩,⟨P,ps,rfl,hP⟩,hz⟩
theorem HO {g:Nat} {row:List PV} (h:Sh Tryz.prog (g+6) 22 row):∃ (S:PV) (ss:List B1.mc) (es:List PV),row=[S]∧B1.pb S ss es∧B1.pE ss:=by
 rcases Qy Tryz.underlying22 h with rfl | ⟨es,rfl,h1,h2,h3⟩
 ·exact⟨_,[],[],rfl,⟨.inl ⟨rfl,rfl⟩,rfl,by simp,by simp⟩,⟨by simp,by simp⟩⟩
 ·obtain⟨l,hl,hq⟩:=YH (f:=Sl Tryz.prog 41) (Q:=fun e s=>(∃ P ps,B1.bf e s P ps)∧s.parts.length * 24≤140737488355328) es (fun r hr=>WS (h3 r hr))
  have hz:l.length * 32≤140737488355328:=by rw[JV] at h2;rw[hl];exact Nat.le_trans h2 (by decide)
  refine⟨_,l,es.map (Sl Tryz.prog 41),rfl,⟨.inr (by rw[iU]),by rw[List.length_map,hl],fun k e s he hs=>(hq k e s he hs).1,by unfold maxLen;omega⟩,hz,?_⟩
  intro s hs
  obtain⟨k,hk,rfl⟩:=List.getElem_of_mem hs
  exact (hq k _ _ (List.getElem?_eq_getElem (by rw[List.length_map];omega)) (List.getElem?_eq_getElem hk)).2
theorem uQ {g:Nat} {row:List PV} (h:Sh Tryz.prog (g+7) 24 row):∃ (S:PV) (ss:List B1.mc) (es:List PV),row=[S]∧B1.pb S ss es∧B1.pE ss:=by
 obtain⟨rows,hl,rfl,hr⟩:=DA Tryz.underlying24 h
 match rows,hl with
 | [x],_=>
   obtain⟨S,ss,es,rfl,h1,h2⟩:=HO (hr 0 _ x rfl rfl)
   exact⟨S,ss,es,rfl,h1,h2⟩
theorem own:ownKnob Tryz.prog.godebug=none:=by kernel_rfl
theorem laidOut:laidOutB Tryz.prog=true:=by kernel_rfl
theorem wf_i64 {n:Int} (h:(Lit.int .i64 n).wf=true): -9223372036854775808≤n∧n≤9223372036854775807:=by
 simp only[Lit.wf,Bool.and_eq_true,decide_eq_true_eq] at h
 exact h
end Go.Proofs.YtdglpnpkgngcdaaGreat
namespace Go.Proofs.YtdglpnpkgngcdaaGreat
open Go.ChangeShapes Go.WideShapes Go.ChangeAt Go.RowKit Go.AM
theorem AW:Tryz.prog.cellsOf 3=1:=by kernel_rfl
theorem kW:Tryz.prog.bytesOf 3=8:=by kernel_rfl
theorem LM {g:Nat} {row:List PV} (h:Sh Tryz.prog (g+2) 77 row):∃ (U:PV) (us:List Int),row=[U]∧B1.Th 1 U (us.map B1.i64)∧us.length * 8≤reachBytes∧∀ u∈us,u≤9223372036854775807:=by
 rcases GU Tryz.underlying77 Tryz.underlying3 h with rfl | ⟨l,rfl,_,hl,hw⟩
 ·exact⟨_,[],rfl,.inl ⟨rfl,rfl⟩,Nat.zero_le _,by simp⟩
 ·rw[kW] at hl
  exact⟨_,l,rfl,.inr (by rw[AW]),hl,fun u hu=>(wf_i64 (hw u hu)).2⟩
end Go.Proofs.YtdglpnpkgngcdaaGreat
