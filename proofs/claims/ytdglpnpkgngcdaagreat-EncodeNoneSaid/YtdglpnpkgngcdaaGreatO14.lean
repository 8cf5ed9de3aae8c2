/- What functions of the program compute. -/
import Derived.Test.YtdglpnpkgngcdaaGreatO12
import Derived.Test.YtdglpnpkgngcdaaGreatO13
import Derived.Test.YtdglpnpkgngcdaaGreatO10
import Derived.Test.YtdglpnpkgngcdaaGreatA3
import Derived.Test.YtdglpnpkgngcdaaGreatRows
set_option linter.unusedVariables false
set_option linter.unusedSimpArgs false
namespace Go.AM.B1
open Go.AM Go.AM.So
theorem fQ (x:ByteArray):(x.data.toList==x.data.toList)=true:=by simp
end Go.AM.B1
namespace Go.AM.B1
open Go.AM Go.AM.So
theorem mH {ss:List ic} (h:∀ s∈ss,∀ l∈s.parts,l.length≤1000) (h2:∀ s∈ss,s.parts.length≤1000) (h3:ss.length≤1000):pb (.lit 2 (ss.map Ae)) ss (ss.map Ae):=by
 refine⟨.inr rfl,by rw[List.length_map],fun k e s he hs=> ?_,by unfold maxLen;omega⟩
 rw[List.getElem?_map,hs] at he
 injection he with he
 have hm:=List.mem_of_getElem? hs
 refine⟨_,_,he.symm,.inr rfl,by rw[List.length_map],fun j v l hv hl=> ?_,by have:=h2 s hm;unfold maxLen;omega⟩
 rw[List.getElem?_map,hl] at hv
 injection hv with hv
 have:=h s hm l (List.mem_of_getElem? hl)
 exact⟨.inr hv.symm,by omega⟩
theorem fI {ss:List ic} {l:List (List Xe)} {a b c d:Int} (hh:pb (.lit 2 (ss.map Ae)) ss (ss.map Ae)) (hv:Pf [.agg [.lit 2 (ss.map Ae)]]=some (.bool true)) (hp:ze [.agg [.lit 2 (ss.map Ae)]]=some (.yc [.agg [.bool true,i64 a,i64 b],i64 0]))
 (hi:Fg [.agg [.lit 2 (ss.map Ae)]]=some (.yc [.agg [.bool true,i64 c,i64 d],i64 0])) (ha:Kg ss=some l):
 Lc ss∧∃ T,Eb [.agg [.lit 2 (ss.map Ae)]]=some (.yc [T,i64 0])∧ru T ss l∧∀ e∈l,Qm e:=by
 obtain⟨x,h1,h2⟩:=Bk hh
 rw[hv] at h1
 injection h1 with h1
 injection h1 with h1
 have Aa:=h2.1 h1.symm
 obtain⟨y,a',b',h3,h4⟩:=(iC hh).2 Aa
 rw[hp] at h3
 injection h3 with h3
 injection h3 with h3
 injection h3 with h3 _
 injection h3 with h3
 injection h3 with h3 _
 injection h3 with h3
 have hpre:=h4.1 h3.symm
 obtain⟨T,t1,t2⟩:=gC hh Aa hpre ha hi
 exact⟨Aa,T,t1,t2,WC Aa hpre ha⟩
end Go.AM.B1
namespace Go.AM.B1
open Go.AM Go.AM.So
def AJ (cd:Int→Option (List Int)) (un repl:Int):Int:=if un < 1∨un > 3 then 180 else if un=2∧cd repl=none then 190 else 0
def aE (cd:Int→Option (List Int)) (un repl:Int):List Int:=if un=2 then (cd repl).getD [] else []
theorem rC.of {T:PV} {ss:List ic} {l:List (List Xe)} (hT:ru T ss l) (Aa:Lc ss):rC T fun u=>wE u ss:=by
 refine⟨fun u=>QR hT Aa u,fun u b h=> ?_,?_⟩
 ·obtain⟨s,hs,h1,h2,rfl,_⟩:=WI Aa.gw h
  have hk:=Aa.gw s hs
  have:=(yv s.parts (u - s.first) 0 hk.parts (by omega) (by omega)).2.1
  have:=hk.hi
  omega
 ·obtain⟨S',NX,DG,RW,h,_⟩:=hT.ex
  exact⟨_,h⟩
section
variable {H:List ba} {T:PV} {cd:Int→Option (List Int)} {call:Wa}
theorem OS (hT:rC T cd) {un repl:Int} (h:AJ cd un repl≠0):∃ X,mg call sf [.pv T,.pv (i64 un),.pv (i64 repl)] H=some (.pv (.yc [.Bf,i64 (AJ cd un repl)]),H++X)∧∀ n,∀ o∈X,oa n o=some o:=by
 obtain⟨R,rfl⟩:=hT.ptr
 have e1:Qt H 1 (.pv (.rp R 0)) (.pv .Bf)=some false:=rfl
 have hm:∀ a b:PV,Uy [.pv a,.pv b]= .pv (.yc [a,b]):=fun _ _=>rfl
 by_cases h1:un < 1∨un > 3
 ·refine⟨[],?_,by simp⟩
  rw[AJ,if_pos h1]
  by_cases h2:un < 1
  ·have d1:decide (un < 1)=true:=decide_eq_true h2
   simp -implicitDefEqProofs only[SX,sevalprocAttr,sf,e1,d1,hm,List.append_nil]
  ·have d1:decide (un < 1)=false:=decide_eq_false h2
   have d2:decide (un > 3)=true:=decide_eq_true (by omega)
   simp -implicitDefEqProofs only[SX,sevalprocAttr,sf,e1,d1,d2,hm,List.append_nil]
 ·rw[AJ,if_neg h1] at h ⊢
  by_cases h2:un=2∧cd repl=none
  ·rw[if_pos h2]
   obtain⟨rfl,h3⟩:=h2
   have hen:=hT.enc repl
   rw[h3] at hen
   have d1:decide ((2:Int) < 1)=false:=rfl
   have d2:decide ((2:Int) > 3)=false:=rfl
   have d3:((2:Int)==2)=true:=rfl
   refine⟨[Af (.rp R 0) .ma 2 0 0 false false],?_,fun n o ho=>by
    simp only[List.mem_cons,List.not_mem_nil,or_false] at ho
    subst ho;exact sj _ _⟩
   simp -implicitDefEqProofs only[SX,sevalprocAttr,sf,e1,d1,d2,d3,hen,hm,fa.eq_1,fa.eq_2,List.set,Ad,au]
  ·rw[if_neg h2] at h;exact absurd rfl h
theorem nR (hT:rC T cd) {un repl:Int} (h:AJ cd un repl=0):∃ R,mg call sf [.pv T,.pv (i64 un),.pv (i64 repl)] H=some (.yc [.ptr H.length 0,.pv (i64 0)],H++[Af T R un 0 0 false false])∧
 (un=2→R= .lit 1 ((aE cd un repl).map u8))∧(un≠2→aE cd un repl=[])∧(aE cd un repl).length≤8∧1≤un∧un≤3∧(un=2→cd repl=some (aE cd un repl)):=by
 obtain⟨R,rfl⟩:=hT.ptr
 have e1:Qt H 1 (.pv (.rp R 0)) (.pv .Bf)=some false:=rfl
 have hm:Uy [.ptr H.length 0,.pv (i64 0)]= .yc [.ptr H.length 0,.pv (i64 0)]:=rfl
 rw[AJ] at h
 by_cases h1:un < 1∨un > 3
 ·rw[if_pos h1] at h;cases h
 ·rw[if_neg h1] at h
  have d1:decide (un < 1)=false:=decide_eq_false (by omega)
  have d2:decide (un > 3)=false:=decide_eq_false (by omega)
  by_cases h2:un=2
  ·cases h3:cd repl with
   |none=>rw[if_pos ⟨h2,h3⟩] at h;cases h
   |some b=>
    have hen:=hT.enc repl
    rw[h3] at hen
    subst h2
    have d3:((2:Int)==2)=true:=rfl
    have hr:aE cd 2 repl=b:=by rw[aE,if_pos rfl,h3];rfl
    rw[hr]
    have g1:(H++[ba.box [.pv (.rp R 0),.pv (i64 2),.pv .ma,.pv (i64 0),.pv (i64 0),.pv (.bool false),.pv (.bool false)]])[H.length]? =some (.box [.pv (.rp R 0),.pv (i64 2),.pv .ma,.pv (i64 0),.pv (i64 0),.pv (.bool false),.pv (.bool false)]):=by simp
    have p1:=fun d=>qe g1 d 0
    have s1:Ka (H++[ba.box [.pv (.rp R 0),.pv (i64 2),.pv .ma,.pv (i64 0),.pv (i64 0),.pv (.bool false),.pv (.bool false)]]) 1 (.ptr H.length 2) (.pv (.lit 1 (b.map u8)))=some (H++[Af (.rp R 0) (.lit 1 (b.map u8)) 2 0 0 false false]):=by
     simp only[Ka,g1]
     rw[if_pos ⟨rfl,rfl⟩,if_pos (by simp)]
     simp[au,AV.cells,PV.cells,fa]
    refine⟨.lit 1 (b.map u8),?_,fun _=>rfl,fun h=>absurd rfl h,hT.len _ _ h3,by omega,by omega,fun _=>rfl⟩
    simp -implicitDefEqProofs only[SX,sevalprocAttr,sf,e1,d1,d2,d3,hen,hm,fa.eq_1,fa.eq_2,List.set,Ad,p1,s1]
  ·have d3:(un==2)=false:=beq_false_of_ne h2
   have hr:aE cd un repl=[]:=by rw[aE,if_neg h2]
   refine⟨.ma,?_,fun h=>absurd h h2,fun _=>hr,by rw[hr];exact Nat.zero_le _,by omega,by omega,fun h=>absurd h h2⟩
   simp -implicitDefEqProofs only[SX,sevalprocAttr,sf,e1,d1,d2,d3,hm,fa.eq_1,fa.eq_2,List.set,Ad,au]
end
theorem xI {H:List ba} {c:Nat} {T R:PV} {un tot out:Int} {st fin:Bool} (hc:H[c]? =some (Af T R un tot out st fin)):Vb H 6 (.ptr c 0)=some (.rp [T,i64 un,R,i64 tot,i64 out,.bool st,.bool fin] 0):=by
 show (match H[c]? with | some (.box cells)=>(Oa (Vb H 5) cells).map fun ps=>PV.rp ps 0 | _=>none)=_
 rw[hc];rfl
theorem QU {T R:PV} {un tot out:Int} {st fin:Bool}:Xi [.rp [T,i64 un,R,i64 tot,i64 out,.bool st,.bool fin] 0]=some (i64 tot):=by kernel_rfl
theorem RS {T R:PV} {un tot out:Int} {st fin:Bool}:bk [.rp [T,i64 un,R,i64 tot,i64 out,.bool st,.bool fin] 0]=some (i64 out):=by kernel_rfl
theorem MP {T R:PV} {un tot out:Int} {st fin:Bool}:zi [.rp [T,i64 un,R,i64 tot,i64 out,.bool st,.bool fin] 0]=some (.bool st):=by kernel_rfl
def vr:List ic:=[⟨[[(0,127)]],0⟩,⟨[[(194,223)],[(128,191)]],128⟩,⟨[[(225,225)],[(128,191)],[(128,191)]],4096⟩]
theorem DJ:Pf [.agg [.lit 2 (vr.map Ae)]]=some (.bool true):=by kernel_rfl
theorem RG:ze [.agg [.lit 2 (vr.map Ae)]]=some (.yc [.agg [.bool true,i64 0,i64 0],i64 0]):=by kernel_rfl
theorem VG:Fg [.agg [.lit 2 (vr.map Ae)]]=some (.yc [.agg [.bool true,i64 0,i64 0],i64 0]):=by kernel_rfl
theorem iK:(Kg vr).isSome=true:=by kernel_rfl
theorem VU:∃ T,ni []=some T∧rC T fun u=>wE u vr:=by
 obtain⟨l,hl⟩:=Option.isSome_iff_exists.1 iK
 obtain⟨Aa,T,h1,hT,_⟩:=fI (mH (by decide) (by decide) (by decide)) DJ RG VG hl
 refine⟨T,?_,rC.of hT Aa⟩
 have hdoc:(.lit 2 (vr.map Ae):PV)= .lit 2 [.agg [.lit 1 [.lit 2 [.agg [i64 0,i64 127]]],i64 0],.agg [.lit 1 [.lit 2 [.agg [i64 194,i64 223]],.lit 2 [.agg [i64 128,i64 191]]],i64 128],.agg [.lit 1 [.lit 2 [.agg [i64 225,i64 225]],.lit 2 [.agg [i64 128,i64 191]],.lit 2 [.agg [i64 128,i64 191]]],i64 4096]]:=rfl
 rw[hdoc] at h1
 obtain⟨R,hR⟩:=(rC.of hT Aa).ptr
 subst hR
 simp -implicitDefEqProofs only[ni,SX,sevalprocAttr,gk,h1,fa.eq_1,fa.eq_2,List.set,Ad]
end Go.AM.B1
namespace Go.AM.B1
open Go.AM Go.AM.So
theorem rF {A:List ba} {c:Nat} (hA:Fe A) {T R:PV} {un tot out:Int} {st fin:Bool} (k1:Nat) (n1:Bool) (k5:Nat) (n5:Bool):Fe (Dm A c (Af T R un tot out st fin) k1 n1 k5 n5):=by
 intro n hn o ho
 rw[Hq] at hn
 unfold Dm at ho
 rcases List.mem_append.1 ho with h | h
 ·rcases List.mem_or_eq_of_mem_set h with h | rfl
  ·exact hA _ (by omega) _ h
  ·exact sj _ _
 ·simp only[List.mem_cons,List.not_mem_nil,or_false] at h
  rcases h with rfl | rfl <;> rfl
theorem cF {T R:PV} {un tot out:Int} {st fin:Bool}:Fe [Af T R un tot out st fin]:=by
 intro n hn o ho
 simp only[List.mem_cons,List.not_mem_nil,or_false] at ho
 subst ho;exact sj _ _
theorem Aw.lit (us:List Int) (n0:Nat):Aw (.pv (.lit 1 (us.map i64))) us n0:=by
 refine⟨fun H=>by simp[Qb],fun H i h=> ?_,fun n hn=>Ga⟩
 simp only[wa]
 rw[if_pos ⟨trivial,by unfold Ea;rw[List.length_map];omega⟩,Int.toNat_natCast,List.getElem?_map,List.getElem?_eq_getElem h];rfl
theorem Aw.ma (n0:Nat):Aw (.pv .ma) [] n0:=⟨fun H=>rfl,fun H i h=>by simp at h,fun n hn=>Ga⟩
theorem Aw.uq (us:List Int) {id n0:Nat} (nl:Bool) (h:id < n0):Aw (.uq id nl 1 (us.map i64)) us n0:=by
 refine⟨fun H=>by simp[Qb],fun H i h=> ?_,fun n hn=>Vk (by omega)⟩
 simp only[wa]
 rw[if_pos ⟨trivial,by unfold Ea;rw[List.length_map];omega⟩,Int.toNat_natCast,List.getElem?_map,List.getElem?_eq_getElem h];rfl
theorem BW:wE 65 vr=some [65]:=by decide
theorem JW:wE 66 vr=some [66]:=by decide
theorem bW:wE 233 vr=some [195,169]:=by decide
theorem WU:wE 3000 vr=none:=by decide
theorem GO:Ki (fun u=>wE u vr) 2 [63] 0 0 0 [] [] [65,233]=([65,195,169],[],false):=by
 simp only[Ki,BW,bW];rfl
theorem tP:Ki (fun u=>wE u vr) 2 [63] 2 3 0 [] [] [3000,66]=([63,66],[uv 2 3000 3],false):=by
 simp only[Ki,WU,JW];rfl
theorem vH:dh []=some (.bool true):=by
 obtain⟨T,htw,hT⟩:=VU
 have hn:=nR (H:=[]) (call:=Ba Tb 7) hT (un:=2) (repl:=63) (by kernel_rfl)
 rw[show aE (fun u=>wE u vr) 2 63=[63] by kernel_rfl] at hn
 obtain⟨R,hn,hR,hR2,hR3,_⟩:=hn
 have h62:∀ c H n,Ba Tb 7 62 [.ptr c 0,.pv (i64 n)] H=mg (Ba Tb 6) Sb [.ptr c 0,.pv (i64 n)] H:=fun _ _ _=>rfl
 obtain⟨r,hr,acc,evs,st,n1,n5,rfl,hgo,hn1,hn5,_⟩:=uc (iD (c:=0) (call:=Ba Tb 7) (h62 0) cF (by simp) hT hR hR2 hR3 (Aw.lit [65,233] 1) (tot:=0) (out:=0) (by decide) (by decide) (by decide) (by decide) (A:=[Af T R 2 0 0 false false]) rfl)
 replace hgo:=GO.symm.trans hgo
 have q1:[65,195,169]=acc:=congrArg (fun x=>x.1) hgo
 have q2:[]=evs:=congrArg (fun x=>x.2.1) hgo
 have q3:false=st:=congrArg (fun x=>x.2.2) hgo
 subst q1 q2 q3
 have hn1:n1=false:=by cases n1 with | false=>rfl | true=>cases hn1 rfl
 subst hn1
 obtain⟨A2,hA2⟩:∃ A,A=Dm [Af T R 2 0 0 false false] 0 (Af T R 2 2 3 false false) 3 false 0 n5:=⟨_,rfl⟩
 have hA2g:Fe A2:=by rw[hA2];exact rF cF _ _ _ _
 obtain⟨r,hr2,acc,evs,st,m1,m5,rfl,hgo,hm1,hm5,_⟩:=uc (iD (c:=0) (call:=Ba Tb 7) (h62 0) hA2g (by rw[hA2];simp[Dm]) hT hR hR2 hR3 (Aw.lit [3000,66] _) (tot:=2) (out:=3) (by decide) (by decide) (by decide) (by decide) (by rw[hA2];rfl))
 replace hgo:=tP.symm.trans hgo
 have q1:[63,66]=acc:=congrArg (fun x=>x.1) hgo
 have q2:[uv 2 3000 3]=evs:=congrArg (fun x=>x.2.1) hgo
 have q3:false=st:=congrArg (fun x=>x.2.2) hgo
 subst q1 q2 q3
 have hm1:m1=false:=by cases m1 with | false=>rfl | true=>cases hm1 rfl
 have hm5:m5=false:=by cases m5 with | false=>rfl | true=>cases hm5 rfl
 subst hm1 hm5
 rw[show Dm [Af T R 2 0 0 false false] 0 (Af T R 2 (0+([65,233]:List Int).length) (0+([65,195,169]:List Int).length) false false) ([65,195,169]:List Int).length false ([]:List PV).length n5=A2 from hA2.symm] at hr
 have hA2l:A2.length=3:=by rw[hA2];rfl
 rw[hA2l] at hr2
 obtain⟨A3,hA3⟩:∃ A,A=Dm A2 0 (Af T R 2 4 5 false false) 2 false 1 false:=⟨_,rfl⟩
 rw[show Dm A2 0 (Af T R 2 (2+([3000,66]:List Int).length) (3+([63,66]:List Int).length) false false) ([63,66]:List Int).length false [uv 2 3000 3].length false=A3 from hA3.symm] at hr2
 have hA3c:A3[0]? =some (Af T R 2 4 5 false false):=by rw[hA3];exact Gw (by omega) _ _ _ _ _
 have htp:=xI hA3c
 have htot:=QU (T:=T) (R:=R) (un:=2) (tot:=4) (out:=5) (st:=false) (fin:=false)
 have hout:=RS (T:=T) (R:=R) (un:=2) (tot:=4) (out:=5) (st:=false) (fin:=false)
 have hsm:Fj [.lit 5 [uv 2 3000 3],.lit 5 [.agg [.int .i64 4,.int .i64 2,.int .i64 1,.int .i64 3000,.int .i64 3]]]=some (.bool true):=by kernel_rfl
 have e0:∀ H:List ba,H=[Af T R 2 0 0 false false]→Qt H 1 (.ptr 0 0) (.pv .Bf)=some false:=fun H h=>by subst h;rfl
 have e1:Qt [Af T R 2 0 0 false false] 1 (.ptr 0 0) (.pv .Bf)=some false:=rfl
 have z0:((0:Int) != 0)=false:=rfl
 have z1:((0:Int)==0)=true:=rfl
 have z2:((4:Int)==4)=true:=rfl
 have z3:((5:Int)==5)=true:=rfl
 have y1:Jz .eql ⟨#[65,195,169]⟩ ⟨#[65,195,169]⟩=some (.bool true):=rfl
 have y2:Jz .eql ⟨#[63,66]⟩ ⟨#[63,66]⟩=some (.bool true):=rfl
 have b1:∀ H,zy H (.uq 1 false 1 [u8 65,u8 195,u8 169])=some ⟨#[65,195,169]⟩:=fun H=>rfl
 have b2:∀ H,zy H (.uq 3 false 1 [u8 63,u8 66])=some ⟨#[63,66]⟩:=fun H=>rfl
 have u1:∀ H n,Vb H 6 (.uq n false 5 [uv 2 3000 3])=some (.lit 5 [uv 2 3000 3]):=fun H n=>rfl
 obtain⟨call,hcall⟩:∃ x,x=Ba Tb 8:=⟨_,rfl⟩
 have k60:∀ un repl,call 60 [.pv T,.pv (i64 un),.pv (i64 repl)] []=mg (Ba Tb 7) sf [.pv T,.pv (i64 un),.pv (i64 repl)] []:=fun _ _=>by rw[hcall];rfl
 have k61:∀ c U H,call 61 [.ptr c 0,U] H=mg (Ba Tb 7) de [.ptr c 0,U] H:=fun _ _ _=>by rw[hcall];rfl
 rw[← k60] at hn
 rw[← k61] at hr hr2
 replace hr:call 61 [.ptr 0 0,.pv (.lit 1 [.int .i64 65,.int .i64 233])] [Af T R 2 0 0 false false]=some (.yc [.uq 1 false 1 [u8 65,u8 195,u8 169],.uq 2 n5 5 [],.pv (.int .i64 0)],A2):=hr
 replace hr2:call 61 [.ptr 0 0,.pv (.lit 1 [.int .i64 3000,.int .i64 66])] A2=some (.yc [.uq 3 false 1 [u8 63,u8 66],.uq 4 false 5 [uv 2 3000 3],.pv (.int .i64 0)],A3):=hr2
 rw[dh,mc,←hcall]
 clear k60 k61 hcall hA2 hA3
 obtain⟨B,hB⟩:∃ B,B=[Af T R 2 0 0 false false]:=⟨_,rfl⟩
 rw[List.nil_append,List.length_nil,←hB] at hn
 rw[← hB] at hr e1
 simp -implicitDefEqProofs only[SX,sevalprocAttr,cj,htw,hn,hr,hr2,htot,hout,htp,hsm,e1,z0,z1,z2,z3,y1,y2,b1,b2,u1,fa.eq_1,fa.eq_2,List.set,Ad]
end Go.AM.B1
namespace Go.AM.B1
open Go.AM Go.AM.So
theorem XJ {S:PV} {ss:List ic} {es:List PV} (hS:pb S ss es) (hz:lD ss):∃ T,ig [.agg [S]]=some (.yc [T,.bool true])∧
 (T= .Bf∨(Lc ss∧Eg ss∧Ll ss∧∃ l,Kg ss=some l∧ru T ss l∧∀ e∈l,Qm e)):=by
 obtain⟨n,V,hr,_,hV1,ht⟩:=xG ss
 have hr:=hr S es hS
 obtain⟨T,ht,ho⟩:=ht (KW ss) (Mn ss) (sL hS)
 have hcp:=vP hS hz
 have hS1:(AV.pv S).one=true:=by rcases hS.is with⟨h,_⟩ | h <;> rw[h] <;> rfl
 have s1:Ka [.box [.pv .ma]] 1 (.ptr 0 0) (.pv (.agg [V]))=some [.box [.pv V]]:=by simp[Ka,AV.cells,PV.cells,hV1,fa]
 have d1:(n==n)=true:=by simp
 refine⟨T,?_,ho.imp (fun h=>h.2) (fun h=>h.2)⟩
 rcases ho with⟨h0,rfl⟩ | ⟨rfl,_,_,_,l,_,hT,_⟩
 ·have d2:(n != 0)=true:=by simp[h0]
  have e1:∀ H,Qt H 1 (.pv .Bf) (.pv .Bf)=some true:=fun H=>rfl
  have e2:∀ H,Qt H 0 (.pv (.bool true)) (.pv (.bool true))=some true:=fun H=>rfl
  simp -implicitDefEqProofs only[ig,SX,sevalprocAttr,Jh,hS1,Je,hcp,ht,hr,s1,d1,d2,e1,e2]
 ·have d2:((0:Int) != 0)=false:=rfl
  have d1:((0:Int)==0)=true:=rfl
  obtain⟨R,rfl⟩:∃ R,T= .rp R 0:=by
   obtain⟨S',NX,DG,RW,h,_⟩:=hT.ex
   exact⟨_,h⟩
  have e1:∀ H,Qt H 1 (.pv (.rp R 0)) (.pv .Bf)=some false:=fun H=>rfl
  have e2:∀ H,Qt H 0 (.pv (.bool false)) (.pv (.bool false))=some true:=fun H=>rfl
  simp -implicitDefEqProofs only[ig,SX,sevalprocAttr,Jh,hS1,Je,hcp,ht,hr,s1,d1,d2,e1,e2]
def nO (l:List Int):ByteArray:=⟨(l.map fun n=>UInt8.ofNat n.toNat).toArray⟩
theorem UB:∀ l:List Int,bytesOf (l.map u8)=some (l.map fun n=>UInt8.ofNat n.toNat)
 | []=>rfl
 |x::l=>by
  show (bytesOf (l.map u8)).map (UInt8.ofNat x.toNat:: ·)=_
  rw[UB l];rfl
theorem Iy (H:List ba) (l:List Int):zy H (.pv (.lit 1 (l.map u8)))=some (nO l):=by
 show (bytesOf (l.map u8)).map _=_
 rw[UB];rfl
theorem eQ (H:List ba):zy H (.pv .ma)=some (nO []):=rfl
theorem rL (x:ByteArray):Jz .neq x x=some (.bool false):=by
 show some (PV.bool (!(x.data.toList==x.data.toList)))=_
 rw[fQ];rfl
theorem Gm (cd:Int→Option (List Int)) (un:Int) (rb:List Int) (base out:Int):∀ (us:List Int) (i:Nat) (acc:List Int) (evs:List PV),∃ a e st,Ki cd un rb base out i acc evs us=(acc++a,evs++e,st)∧(st=true→un=3∧e≠[])
 | [],i,acc,evs=>⟨[],[],false,by simp[Ki],fun h=>by cases h⟩
 |u::us,i,acc,evs=>by
  rw[Ki]
  cases cd u with
  |some b=>
   obtain⟨a,e,st,h,hs⟩:=Gm cd un rb base out us (i+1) (acc++b) evs
   exact⟨b++a,e,st,by rw[← List.append_assoc];exact h,hs⟩
  |none=>
   by_cases h3:un=3
   ·exact⟨[],[uv (base+i) u (out+acc.length)],true,by simp[h3],fun _=>⟨h3,by simp⟩⟩
   ·obtain⟨a,e,st,h,hs⟩:=Gm cd un rb base out us (i+1) (acc++rb) (evs++[uv (base+i) u (out+acc.length)])
    refine⟨rb++a,uv (base+i) u (out+acc.length)::e,st,?_,fun h=>⟨(hs h).1,by simp⟩⟩
    show (if un=3 then _ else _)=_
    rw[if_neg h3,h];simp
end Go.AM.B1
namespace Go.AM.B1
open Go.AM Go.AM.So
theorem GW (a u o:Int):Rj (.row [1,1,1,1,1]) (uv a u o) (.agg [.int .i64 4,.int .i64 a,.int .i64 1,.int .i64 u,.int .i64 o])=some true:=by
 show Hh [1,1,1,1,1] [i64 4,i64 a,i64 1,i64 u,i64 o] [i64 4,i64 a,i64 1,i64 u,i64 o]=_
 simp[Hh,gp]
theorem ND {id:Nat} {nl:Bool} {a y b:List Int} (hn:nl=true→a++y++b=[]) (n m:Int) (h1:n=a.length) (h2:m=(a.length:Int)+y.length):∃ v,(∀ H,yf H 1 (.uq id nl 1 ((a++y++b).map u8)) (some n) (some m)=some (.pv v))∧∀ H,zy H (.pv v)=some (nO y):=by
 subst h1 h2
 cases nl with
 |true=>
  have h:=hn rfl
  simp only[List.append_eq_nil_iff] at h
  obtain⟨⟨rfl,rfl⟩,rfl⟩:=h
  exact⟨.ma,fun H=>by simp[yf],fun H=>rfl⟩
 |false=>
  refine⟨.lit 1 (y.map u8),fun H=> ?_,fun H=>Iy H y⟩
  simp only[yf,Option.getD_some]
  rw[if_pos ⟨by decide,trivial,by omega,by omega,by rw[List.length_map,List.length_append,List.length_append];omega⟩]
  have e1:((a.length:Int)+y.length).toNat=(a++y).length:=by rw[List.length_append];omega
  rw[e1,Int.toNat_natCast,List.map_append,List.take_left' (by rw[List.length_map]),List.map_append,List.drop_left' (by rw[List.length_map])]
  rfl
section
variable {call:Wa} {A2:List ba} {c:Nat}
theorem uP (hA:Fe A2) (hc:c < A2.length) {T W:PV} {cd:Int→Option (List Int)} (hT:rC T cd) {un repl:Int} (hW:W= .rp [i64 un,i64 repl] 0) {rb:List Int} (hR:un=2→cd repl=some rb) (hn:un≠2→rb=[]) (h13:1≤un∧un≤3)
 {U:PV} {us:List Int} (hU:Aw (.pv U) us 0) (hus:us.length≤65536) {k1 k5:Nat} (hk1:k1 < A2.length) (hk5:k5 < A2.length) {n1 n5 st:Bool} {acc:List Int} {evs:List PV} (hgo:Ki cd un rb 0 0 0 [] [] us=(acc,evs,st)) (ha:n1=true→acc=[]) (he:n5=true→evs=[]) (hal:acc.length≤8 * us.length)
 {E:Tr} (h5:E.get 5= .pv W) (h7:E.get 7= .pv T) (h9:E.get 9= .ptr c 0) (h11:E.get 11= .uq k1 n1 1 (acc.map u8)) (h12:E.get 12= .uq k5 n5 5 evs) (h14:E.get 14= .pv (i64 0)) (h15:E.get 15= .pv (i64 0)) (h59:E.get 59= .pv U) (h60:E.get 60= .pv (i64 us.length)) (h61:E.get 61= .pv (i64 0)):
 Sd (fun r=>r.1.stop=true∧∃ E',r=(.exit 0,⟨E',A2⟩)∧Mc [5,7,9,11,12,59,60] E E'∧E'.get 14= .pv (i64 acc.length)∧E'.get 15= .pv (i64 evs.length)∧st=(un==3&&decide (evs.length > 0)))
  (pa call (.loop [5,7,9,11,12,14,15,59,60,61] bc) ⟨E,A2⟩):=by
 have hcut:Fit A2.length [5,7,9,11,12,59,60] E:= .cons h5 Ga (.cons h7 Ga (.cons h9 (xo hc) (.cons h11 (Vk hk1) (.cons h12 (Vk hk5) (.cons h59 Ga (.cons h60 Ga (.nil _ _)))))))
 have hgd:=hA A2.length (Nat.le_refl _)
 subst hW
 refine Ho (fun i t=>Mc [5,7,9,11,12,59,60] E t.env∧t.env.get 61= .pv (i64 i)∧t.H=A2∧∃ ac ev,t.env.get 14= .pv (i64 (ac:List Int).length)∧t.env.get 15= .pv (i64 (ev:List PV).length)∧
  Ki cd un rb 0 0 i ac ev (us.drop i)=(acc,evs,st)∧(un=3→ev=[])∧ev.length≤i) us.length (by unfold qa;omega) ?_ ?_ ?_
 ·exact cg.all rfl hgd (Fit.sub (.cons h61 Ga (.cons h14 Ga (.cons h15 Ga hcut))) rfl) fun E' hE=>⟨Mc.sub hE rfl,by rw[hE 61 (by simp),h61];rfl,rfl,[],[],by rw[hE 14 (by simp),h14];rfl,by rw[hE 15 (by simp),h15];rfl,hgo,fun _=>rfl,by simp⟩
 ·rintro i ⟨E1,H1⟩ hi ⟨k1',k2,k3,ac,ev,k14,k15,k4,k5',k6⟩
  simp only at k1' k2 k3 k14 k15
  replace k3:=k3.symm
  subst k3
  have g5:=(k1' 5 (by simp)).trans h5
  have g7:=(k1' 7 (by simp)).trans h7
  have g9:=(k1' 9 (by simp)).trans h9
  have g11:=(k1' 11 (by simp)).trans h11
  have g12:=(k1' 12 (by simp)).trans h12
  have g59:=(k1' 59 (by simp)).trans h59
  have g60:=(k1' 60 (by simp)).trans h60
  have e1:decide ((i:Int) < (us.length:Int))=true:=Fa (by omega)
  have t1:IntKind.i64.wrap ((i:Int)+1)=((i+1:Nat):Int):=xk (by omega)
  have hat:=fun H=>hU.lX H i hi
  have hen:=hT.enc us[i]
  have hlb:=hT.len us[i]
  rw[List.drop_eq_getElem_cons hi,Ki] at k4
  generalize us[i]=u at *
  have lu:∀ H,Qb H 0 (.uq k1 n1 1 (acc.map u8))=some acc.length:=fun H=>by simp[Qb]
  have le:∀ H,Qb H 0 (.uq k5 n5 5 evs)=some evs.length:=fun H=>rfl
  have ll:∀ H (y:List Int),Qb H 0 (.pv (.lit 1 (y.map u8)))=some y.length:=fun H y=>by simp[Qb]
  generalize hQ:RQ _ _ _ _=Q
  cases hcd:cd u with
  |some y=>
   rw[hcd] at hen k4
   have hy8:=hlb y hcd
   obtain⟨a',e',st',hx,_⟩:=Gm cd un rb 0 0 (us.drop (i+1)) (i+1) (ac++y) ev
   have hacc:acc=ac++y++a':=congrArg (fun x=>x.1) (k4.symm.trans hx)
   have t2:IntKind.i64.wrap ((ac.length:Int)+(y.length:Int))=((ac++y).length:Int):=by rw[Ca (by rw[hacc,List.length_append,List.length_append] at hal;omega),List.length_append];omega
   have d1:decide (((ac++y).length:Int) > (acc.length:Int))=false:=Ja (by rw[hacc,List.length_append (bs:=a')];omega)
   obtain⟨v,hsl,hb2⟩:=ND (id:=k1) (nl:=n1) (a:=ac) (y:=y) (b:=a') (fun h=>by rw[← hacc];exact ha h) (ac.length:Int) ((ac++y).length:Int) rfl (by rw[List.length_append];omega)
   rw[← hacc] at hsl
   have hby:=fun H=>Iy H y
   have hne:=rL (nO y)
   simp -implicitDefEqProofs only[SX,sevalprocAttr,bc,g5,g7,g9,g11,g12,g59,g60,k2,k14,k15,e1,hat,Xa,hen,lu,le,ll,t1,t2,d1,hsl,hb2,hby,hne]
   subst hQ
   rw[Di]
   generalize hEE:(Tr.set _ 61 _:Tr)=E2
   have kk:Mc [5,7,9,11,12,59,60] E E2:=by
    rw[← hEE]
    repeat refine Mc.set ?_ rfl
    exact k1'
   have z61:E2.get 61= .pv (i64 (i+1:Nat)):=by rw[← hEE];simp[Tr.aa]
   have z14:E2.get 14= .pv (i64 (ac++y).length):=by rw[← hEE];simp[Tr.aa]
   have z15:E2.get 15= .pv (i64 ev.length):=by rw[← hEE];simp[Tr.aa,k15]
   exact cg.all rfl hgd (Fit.sub (.cons z61 Ga (.cons z14 Ga (.cons z15 Ga (hcut.Qe kk)))) rfl) fun E' hE=>⟨kk.trans (Mc.sub hE rfl),by rw[hE 61 (by simp),z61],rfl,ac++y,ev,by rw[hE 14 (by simp),z14],by rw[hE 15 (by simp),z15],k4,k5',by omega⟩
  |none=>
   rw[hcd] at hen k4
   have t3:IntKind.i64.wrap ((ev.length:Int)+1)=((ev.length+1:Nat):Int):=xk (by omega)
   have w0:(0:Int)+(i:Int)=i:=by omega
   have w1:(0:Int)+(ac.length:Int)=ac.length:=by omega
   rw[w0,w1] at k4
   replace k4:(if un=3 then (ac,ev++[uv (i:Int) u (ac.length:Int)],true) else Ki cd un rb 0 0 (i+1) (ac++rb) (ev++[uv (i:Int) u (ac.length:Int)]) (us.drop (i+1)))=(acc,evs,st):=k4
   have hevs:∃ e',evs=ev++[uv i u ac.length]++e':=by
    by_cases h3:un=3
    ·rw[if_pos h3] at k4
     exact⟨[],by rw[List.append_nil];exact (congrArg (fun x=>x.2.1) k4).symm⟩
    ·rw[if_neg h3] at k4
     obtain⟨a',e',st',hx,_⟩:=Gm cd un rb 0 0 (us.drop (i+1)) (i+1) (ac++rb) (ev++[uv (i:Int) u (ac.length:Int)])
     exact⟨e',congrArg (fun x=>x.2.1) (k4.symm.trans hx)⟩
   obtain⟨e',hevs⟩:=hevs
   have hel:ev.length < evs.length:=by rw[hevs,List.length_append,List.length_append,List.length_singleton];omega
   have d4:decide ((ev.length:Int)≥(evs.length:Int))=false:=decide_eq_false (by omega)
   have a5:∀ H,wa H 5 (.uq k5 n5 5 evs) (ev.length:Int)=some (.pv (.rp [i64 4,i64 i,i64 1,i64 u,i64 ac.length] 0)):=fun H=>by
    simp only[wa]
    rw[if_pos ⟨trivial,by unfold Ea;omega⟩,Int.toNat_natCast,hevs,List.append_assoc,List.getElem?_append_right (Nat.le_refl _),Nat.sub_self];rfl
   have l5:∀ H,xa H true 5 (.pv (.rp [i64 4,i64 i,i64 1,i64 u,i64 ac.length] 0))=some (.pv (uv i u ac.length)):=fun H=>rfl
   have hq:=GW i u ac.length
   by_cases h3:un=3
   ·have d3:(un==3)=true:=by rw[h3];rfl
    rw[if_pos h3] at k4
    have q1:ac=acc:=congrArg (fun x=>x.1) k4
    have q2:ev++[uv (i:Int) u (ac.length:Int)]=evs:=congrArg (fun x=>x.2.1) k4
    have q3:true=st:=congrArg (fun x=>x.2.2) k4
    simp -implicitDefEqProofs only[SX,sevalprocAttr,bc,g5,g7,g9,g11,g12,g59,g60,k2,k14,k15,e1,hat,Xa,hen,lu,le,ll,t1,t3,d4,a5,l5,hq,d3,MK,wc,fa.eq_1,fa.eq_2,List.set,Ad]
    subst hQ
    refine⟨_,rfl,?_,by simp[Tr.aa,k14,q1],by simp[Tr.aa,←q2],by rw[← q3,h3,←q2];simp⟩
    repeat refine Mc.set ?_ rfl
    exact k1'
   ·have d3:(un==3)=false:=beq_false_of_ne h3
    rw[if_neg h3] at k4
    by_cases h2:un=2
    ·have d2:(un==2)=true:=by rw[h2];rfl
     have hrp:=hR h2
     have hen2:=hT.enc repl
     rw[hrp] at hen2
     have hr8:=hT.len _ _ hrp
     obtain⟨a',e'',st',hx,_⟩:=Gm cd un rb 0 0 (us.drop (i+1)) (i+1) (ac++rb) (ev++[uv (i:Int) u (ac.length:Int)])
     have hacc:acc=ac++rb++a':=congrArg (fun x=>x.1) (k4.symm.trans hx)
     have t2:IntKind.i64.wrap ((ac.length:Int)+(rb.length:Int))=((ac++rb).length:Int):=by rw[Ca (by rw[hacc,List.length_append,List.length_append] at hal;omega),List.length_append];omega
     have d1:decide (((ac++rb).length:Int) > (acc.length:Int))=false:=Ja (by rw[hacc,List.length_append (bs:=a')];omega)
     obtain⟨v,hsl,hb2⟩:=ND (id:=k1) (nl:=n1) (a:=ac) (y:=rb) (b:=a') (fun h=>by rw[← hacc];exact ha h) (ac.length:Int) ((ac++rb).length:Int) rfl (by rw[List.length_append];omega)
     rw[← hacc] at hsl
     have hby:=fun H=>Iy H rb
     have hne:=rL (nO rb)
     simp -implicitDefEqProofs only[SX,sevalprocAttr,bc,g5,g7,g9,g11,g12,g59,g60,k2,k14,k15,e1,hat,Xa,hen,hen2,lu,le,ll,t1,t2,t3,d1,d4,a5,l5,hq,d2,d3,MK,wc,Ig,fa.eq_1,fa.eq_2,List.set,Ad,hsl,hb2,hby,hne]
     subst hQ
     rw[Di]
     generalize hEE:(Tr.set _ 61 _:Tr)=E2
     have kk:Mc [5,7,9,11,12,59,60] E E2:=by
      rw[← hEE]
      repeat refine Mc.set ?_ rfl
      exact k1'
     have z61:E2.get 61= .pv (i64 (i+1:Nat)):=by rw[← hEE];simp[Tr.aa]
     have z14:E2.get 14= .pv (i64 (ac++rb).length):=by rw[← hEE];simp[Tr.aa]
     have z15:E2.get 15= .pv (i64 (ev++[uv (i:Int) u (ac.length:Int)]).length):=by rw[← hEE];simp[Tr.aa]
     exact cg.all rfl hgd (Fit.sub (.cons z61 Ga (.cons z14 Ga (.cons z15 Ga (hcut.Qe kk)))) rfl) fun E' hE=>⟨kk.trans (Mc.sub hE rfl),by rw[hE 61 (by simp),z61],rfl,ac++rb,_,by rw[hE 14 (by simp),z14],by rw[hE 15 (by simp),z15],k4,fun h=>absurd h h3,by rw[List.length_append,List.length_singleton];omega⟩
    ·have d2:(un==2)=false:=beq_false_of_ne h2
     rw[show ac++rb=ac by rw[hn h2,List.append_nil]] at k4
     obtain⟨a',e'',st',hx,_⟩:=Gm cd un rb 0 0 (us.drop (i+1)) (i+1) ac (ev++[uv (i:Int) u (ac.length:Int)])
     have hacc:acc=ac++[]++a':=by rw[List.append_nil];exact congrArg (fun x=>x.1) (k4.symm.trans hx)
     have t2:IntKind.i64.wrap ((ac.length:Int)+((0:Nat):Int))=(ac.length:Int):=by rw[Ca (by rw[hacc,List.length_append,List.length_append] at hal;simp at hal;omega)];omega
     have d1:decide ((ac.length:Int) > (acc.length:Int))=false:=Ja (by rw[hacc,List.length_append (bs:=a')];simp;omega)
     obtain⟨v,hsl,hb2⟩:=ND (id:=k1) (nl:=n1) (a:=ac) (y:=[]) (b:=a') (fun h=>by rw[← hacc];exact ha h) (ac.length:Int) (ac.length:Int) rfl (by simp)
     rw[← hacc] at hsl
     have ln:∀ H,Qb H 0 (.pv .ma)=some 0:=fun H=>rfl
     have t2':IntKind.i64.wrap ((ac.length:Int)+0)=(ac.length:Int):=t2
     have hby:=eQ
     have hne:=rL (nO [])
     simp -implicitDefEqProofs only[SX,sevalprocAttr,bc,g5,g7,g9,g11,g12,g59,g60,k2,k14,k15,e1,hat,Xa,hen,lu,le,ln,t1,t2,t2',t3,d1,d4,a5,l5,hq,d2,d3,MK,wc,Ig,fa.eq_1,fa.eq_2,List.set,Ad,hsl,hb2,hby,hne]
     subst hQ
     rw[Di]
     generalize hEE:(Tr.set _ 61 _:Tr)=E2
     have kk:Mc [5,7,9,11,12,59,60] E E2:=by
      rw[← hEE]
      repeat refine Mc.set ?_ rfl
      exact k1'
     have z61:E2.get 61= .pv (i64 (i+1:Nat)):=by rw[← hEE];simp[Tr.aa]
     have z14:E2.get 14= .pv (i64 ac.length):=by rw[← hEE];simp[Tr.aa]
     have z15:E2.get 15= .pv (i64 (ev++[uv (i:Int) u (ac.length:Int)]).length):=by rw[← hEE];simp[Tr.aa]
     exact cg.all rfl hgd (Fit.sub (.cons z61 Ga (.cons z14 Ga (.cons z15 Ga (hcut.Qe kk)))) rfl) fun E' hE=>⟨kk.trans (Mc.sub hE rfl),by rw[hE 61 (by simp),z61],rfl,ac,_,by rw[hE 14 (by simp),z14],by rw[hE 15 (by simp),z15],k4,fun h=>absurd h h3,by rw[List.length_append,List.length_singleton];omega⟩
 ·rintro⟨E1,H1⟩ ⟨k1',k2,k3,ac,ev,k14,k15,k4,k5',k6⟩
  simp only at k1' k2 k3 k14 k15
  replace k3:=k3.symm
  subst k3
  have g60:=(k1' 60 (by simp)).trans h60
  rw[List.drop_length,Ki] at k4
  have q1:ac=acc:=congrArg (fun x=>x.1) k4
  have q2:ev=evs:=congrArg (fun x=>x.2.1) k4
  have q3:false=st:=congrArg (fun x=>x.2.2) k4
  have e1:decide ((us.length:Int) < (us.length:Int))=false:=Ja (by omega)
  generalize hQ:(fun r:Ex×St=>r.1.stop=true∧_)=Q
  simp -implicitDefEqProofs only[SX,sevalprocAttr,bc,g60,k2,e1]
  subst hQ
  refine⟨rfl,_,rfl,?_,by simp[Tr.aa,k14,q1],by simp[Tr.aa,k15,q2],?_⟩
  ·repeat refine Mc.set ?_ rfl
   exact k1'
  ·rw[← q3]
   by_cases h3:un=3
   ·rw[← q2,k5' h3];simp
   ·simp[h3]
end
end Go.AM.B1
namespace Go.AM.B1
open Go.AM Go.AM.So
theorem Aw.gX {U:PV} {us:List Int} (h:Ai 1 U (us.map i64)) (n0:Nat):Aw (.pv U) us n0:=by
 refine⟨fun H=>by rw[h.len H,List.length_map],fun H i hi=> ?_,fun n hn=>Ga⟩
 rw[h.lit (i:=i) (by rw[List.length_map];exact hi)]
 simp only[wa]
 rw[if_pos ⟨trivial,by unfold Ea;rw[List.length_map];omega⟩,Int.toNat_natCast,List.getElem?_map,List.getElem?_eq_getElem hi];rfl
theorem LH {S:PV} {ss:List ic} {es:List PV} (hS:pb S ss es) (hz:lD ss) {U:PV} {us:List Int} (hU:Ai 1 U (us.map i64)) (un repl:Int):
 mc Qa Ab [.agg [S],U,.agg [i64 un,i64 repl]]=some (.bool true):=by
 have hS1:(AV.pv S).one=true:=by rcases hS.is with⟨h,_⟩ | h <;> rw[h] <;> rfl
 have hU1:(AV.pv U).one=true:=by rcases hU with⟨h,_⟩ | h <;> rw[h] <;> rfl
 have hfx:=vH
 obtain⟨T,hmd,ho⟩:=XJ hS hz
 have lU:=(Aw.gX hU 0).len
 rw[mc]
 obtain⟨call,hcall⟩:∃ x,x=Ba Qa 8:=⟨_,rfl⟩
 rw[← hcall]
 have k60:∀ T un repl H,call 60 [.pv T,.pv (i64 un),.pv (i64 repl)] H=mg (Ba Qa 7) sf [.pv T,.pv (i64 un),.pv (i64 repl)] H:=fun _ _ _ _=>by rw[hcall];rfl
 have k61:∀ c U H,call 61 [.ptr c 0,U] H=mg (Ba Qa 7) de [.ptr c 0,U] H:=fun _ _ _=>by rw[hcall];rfl
 have h62:∀ c H n,Ba Qa 7 62 [.ptr c 0,.pv (i64 n)] H=mg (Ba Qa 6) Sb [.ptr c 0,.pv (i64 n)] H:=fun _ _ _=>rfl
 rcases ho with rfl | ⟨Aa,_,_,l,_,hT,_⟩
 ·have e1:∀ H,Qt H 1 (.pv .Bf) (.pv .Bf)=some true:=fun H=>rfl
  simp -implicitDefEqProofs only[SX,sevalprocAttr,Ab,hfx,hmd,hS1,Je,e1]
 ·have hT:=rC.of hT Aa
  obtain⟨R0,hR0⟩:=hT.ptr
  subst hR0
  have e1:∀ H,Qt H 1 (.pv (.rp R0 0)) (.pv .Bf)=some false:=fun H=>rfl
  by_cases hlen:us.length > 65536
  ·have d1:decide ((us.length:Int) > 65536)=true:=decide_eq_true (by omega)
   simp -implicitDefEqProofs only[SX,sevalprocAttr,Ab,hfx,hmd,hS1,Je,e1,lU,d1]
  ·have d1:decide ((us.length:Int) > 65536)=false:=decide_eq_false (by omega)
   by_cases hne:AJ (fun u=>wE u ss) un repl=0
   ·obtain⟨R,hnew,hR,hR2,hR3,h1,h3,hrp⟩:=nR (H:=[]) (call:=Ba Qa 7) hT hne
    obtain⟨rb,hrb⟩:∃ rb,rb=aE (fun u=>wE u ss) un repl:=⟨_,rfl⟩
    rw[← hrb] at hR hR2 hR3 hrp
    rw[← k60] at hnew
    obtain⟨A,hA⟩:∃ A,A=[Af (.rp R0 0) R un 0 0 false false,.tok 1 us.length false]:=⟨_,rfl⟩
    have hAg:Fe A:=by
     rw[hA];intro n hn o ho
     simp only[List.mem_cons,List.not_mem_nil,or_false] at ho
     rcases ho with rfl | rfl
     ·exact sj _ _
     ·rfl
    have hAl:A.length=2:=by rw[hA];rfl
    obtain⟨r,hfd,acc,evs,st,n1,n5,rfl,hgo,hn1,hn5,hal⟩:=uc (iD (c:=0) (call:=Ba Qa 7) (h62 0) hAg (by omega) hT hR hR2 hR3 (Aw.uq us (id:=1) false (by omega)) (tot:=0) (out:=0) (by decide) (by omega) (by decide) (by decide) (A:=A) (by rw[hA];rfl))
    rw[← k61] at hfd
    have ap:Ub [Af (.rp R0 0) R un 0 0 false false,.tok 1 0 false] false .uq 1 false 8 (.uq 1 false 1 []) (.pv U)=some (.uq 1 false 1 (us.map i64),A):=by
     rw[hA]
     have hel:Te 1 (.pv U)=some (us.map i64):=by
      rcases hU with⟨rfl,h⟩ | rfl
      ·rw[h];rfl
      ·simp[Te]
     simp only[Ub,Bool.false_eq_true,if_false,List.getElem?_cons_succ,List.getElem?_cons_zero,hel,Option.bind_some]
     rw[if_pos ⟨trivial,trivial,rfl,by unfold qb;rw[List.length_map];simp;omega⟩]
     simp
    obtain⟨A2,hA2⟩:∃ x,x=Dm A 0 (Af (.rp R0 0) R un (0+us.length) (0+acc.length) st false) acc.length n1 evs.length n5:=⟨_,rfl⟩
    have hA2g:Fe A2:=by rw[hA2];exact rF hAg _ _ _ _
    have hA2c:A2[0]? =some (Af (.rp R0 0) R un (0+us.length) (0+acc.length) st false):=by rw[hA2];exact Gw (by omega) _ _ _ _ _
    have hA2l:A2.length=4:=by rw[hA2,Hq];omega
    have htp:=xI hA2c
    have hst:=MP (T:= .rp R0 0) (R:=R) (un:=un) (tot:=0+us.length) (out:=0+acc.length) (st:=st) (fin:=false)
    rw[← hA2,hAl] at hfd
    have hloop:=fun E h5 h7 h9 h11 h12 h14 h15 h59 h60 h61=>uP (call:=call) (c:=0) hA2g (by omega) hT (W:= .rp [i64 un,i64 repl] 0) rfl hrp hR2 ⟨h1,h3⟩ (Aw.gX hU 0) (by omega) (k1:=2) (k5:=3) (by omega) (by omega) hgo hn1 hn5 hal (E:=E) h5 h7 h9 h11 h12 h14 h15 h59 h60 h61
    obtain⟨B,hB⟩:∃ B,B=[Af (.rp R0 0) R un 0 0 false false]:=⟨_,rfl⟩
    have hBl:B.length=1:=by rw[hB];rfl
    replace hnew:call 60 [.pv (.rp R0 0),.pv (i64 un),.pv (i64 repl)] []=some (.yc [.ptr 0 0,.pv (i64 0)],B):=by rw[hB];exact hnew
    replace ap:Ub (B++[.tok 1 0 false]) false .uq 1 false 8 (.uq 1 false 1 []) (.pv U)=some (.uq 1 false 1 (us.map i64),A):=by rw[hB];exact ap
    have z0:((0:Int) != 0)=false:=rfl
    have hfr:∀ H,fresh H .uq 1 false 0 []=some (.uq H.length false 1 [],H++[.tok 1 0 false]):=fun H=>rfl
    clear k60 k61 hcall
    suffices key:Sd (fun r=>Vb r.2 deep r.1=some (.bool true)) (mg call Ab [.pv (.agg [S]),.pv U,.pv (.agg [i64 un,i64 repl])] []) by
     obtain⟨r,hr1,hr2⟩:=uc key
     show (mg call Ab [.pv (.agg [S]),.pv U,.pv (.agg [i64 un,i64 repl])] []).bind _=_
     rw[hr1];exact hr2
    generalize hQ:(fun r:AV×List ba=>Vb r.2 deep r.1=some (PV.bool true))=Q
    simp -implicitDefEqProofs only[SX,sevalprocAttr,Ab,hfx,hmd,hS1,hU1,Je,e1,lU,d1,hnew,z0,MK,wc,Ig,hfr,hBl,ap,hfd,Cj,Am]
    generalize hEE:(Tr.set _ 61 _:Tr)=E
    refine ya (hloop E (by rw[← hEE];simp[Tr.aa]) (by rw[← hEE];simp[Tr.aa]) (by rw[← hEE];simp[Tr.aa]) (by rw[← hEE];simp[Tr.aa]) (by rw[← hEE];simp[Tr.aa]) (by rw[← hEE];simp[Tr.aa]) (by rw[← hEE];simp[Tr.aa]) (by rw[← hEE];simp[Tr.aa]) (by rw[← hEE];simp[Tr.aa]) (by rw[← hEE];simp[Tr.aa])) ?_
    have g5:E.get 5= .pv (.rp [i64 un,i64 repl] 0):=by rw[← hEE];simp[Tr.aa]
    have g9:E.get 9= .ptr 0 0:=by rw[← hEE];simp[Tr.aa]
    have g11:E.get 11= .uq 2 n1 1 (acc.map u8):=by rw[← hEE];simp[Tr.aa]
    have g12:E.get 12= .uq 3 n5 5 evs:=by rw[← hEE];simp[Tr.aa]
    rintro r ⟨_,E2,rfl,kk,q14,q15,hstv⟩
    have r5:=(kk 5 (by simp)).trans g5
    have r9:=(kk 9 (by simp)).trans g9
    have r11:=(kk 11 (by simp)).trans g11
    have r12:=(kk 12 (by simp)).trans g12
    have x1:((evs.length:Int)==(evs.length:Int))=true:=by simp
    have x2:((acc.length:Int)==(acc.length:Int))=true:=by simp
    have lu:∀ H,Qb H 0 (.uq 2 n1 1 (acc.map u8))=some acc.length:=fun H=>by simp[Qb]
    have le:∀ H,Qb H 0 (.uq 3 n5 5 evs)=some evs.length:=fun H=>rfl
    have e0:∀ H (b:Bool),Qt H 0 (.pv (.bool b)) (.pv (.bool b))=some true:=fun H b=>by simp[Qt]
    by_cases h3':un=3
    ·have d3:(un==3)=true:=by rw[h3'];rfl
     have d4:decide ((evs.length:Int) > 0)=st:=by
      rw[hstv,d3,Bool.true_and]
      by_cases hv:evs.length > 0
      ·rw[decide_eq_true hv,decide_eq_true (by omega)]
      ·rw[decide_eq_false hv,decide_eq_false (by omega)]
     simp -implicitDefEqProofs only[SX,sevalprocAttr,r5,r9,r11,r12,q14,q15,x1,x2,lu,le,htp,hst,MK,wc,d3,d4,e0]
     subst hQ
     rfl
    ·have d3:(un==3)=false:=beq_false_of_ne h3'
     have hstf:st=false:=by rw[hstv,d3];rfl
     subst hstf
     simp -implicitDefEqProofs only[SX,sevalprocAttr,r5,r9,r11,r12,q14,q15,x1,x2,lu,le,htp,hst,MK,wc,d3,e0]
     subst hQ
     rfl
   ·obtain⟨X,hnew,_⟩:=OS (H:=[]) (call:=Ba Qa 7) hT hne
    rw[← k60] at hnew
    have d2:(AJ (fun u=>wE u ss) un repl != 0)=true:=by simp[hne]
    have e2:∀ H,Qt H 1 (.pv .Bf) (.pv .Bf)=some true:=fun H=>rfl
    clear k60 k61 hcall
    simp -implicitDefEqProofs only[SX,sevalprocAttr,Ab,hfx,hmd,hS1,Je,e1,lU,d1,hnew,d2,e2,MK,wc,Ig]
end Go.AM.B1
set_option maxRecDepth 100000
namespace Go.Proofs.YtdglpnpkgngcdaaGreat
open Go.ChangeShapes Go.WideShapes Go.ChangeAt Go.RowKit Go.AM
theorem nT:Tryz.prog.cellsOf 44=2:=by kernel_rfl
theorem dU:Tryz.prog.bytesOf 44=16:=by kernel_rfl
theorem vU:Tryz.prog.cellsOf 42=1:=by kernel_rfl
theorem QT:Tryz.prog.bytesOf 42=24:=by kernel_rfl
theorem wT:Tryz.prog.cellsOf 41=2:=by kernel_rfl
theorem xU:Tryz.prog.bytesOf 41=32:=by kernel_rfl
theorem bU {g:Nat} {row:List PV} (h:Sh Tryz.prog (g+2) 44 row):∃ p:Int×Int,Dl Tryz.prog 44 row=B1.pr p:=by
 rw[Vv Tryz.underlying44]
 obtain⟨rows,hl,rfl,hr⟩:=Zv Tryz.underlying44 h
 match rows,hl with
 | [x,y],_=>
   obtain⟨a,rfl,_⟩:=Cx Tryz.underlying3 (hr 0 _ x rfl rfl)
   obtain⟨b,rfl,_⟩:=Cx Tryz.underlying3 (hr 1 _ y rfl rfl)
   exact⟨(a,b),rfl⟩
theorem ZQ {α β:Type} {f:α→β}:∀ {es:List β},(∀ e∈es,∃ a,e=f a)→∃ l:List α,es=l.map f
 | [],_=>⟨[],rfl⟩
 |e::es,h=>by
  obtain⟨a,ha⟩:=h e (by simp)
  obtain⟨l,hl⟩:=ZQ (es:=es) fun e he=>h e (by simp[he])
  exact⟨a::l,by rw[ha,hl];rfl⟩
theorem rR {g:Nat} {row:List PV} (h:Sh Tryz.prog (g+3) 42 row):∃ (V:PV) (l:List (Int×Int)),row=[V]∧B1.Bn V l:=by
 rcases Ry Tryz.underlying42 h with rfl | ⟨es,rfl,h1,h2,h3⟩
 ·exact⟨_,[],rfl,.inl ⟨rfl,rfl⟩,Nat.zero_le _⟩
 ·obtain⟨l,hl⟩:=ZQ (f:=B1.pr) (es:=es.map (Dl Tryz.prog 44)) (by
   intro e he
   obtain⟨r,hr,rfl⟩:=List.mem_map.1 he
   exact bU (h3 r hr))
  have hlen:l.length=es.length:=by have:=congrArg List.length hl;simpa using this.symm
  refine⟨_,l,rfl,.inr (by rw[nT,hl]),?_⟩
  rw[hlen]
  rw[dU] at h2
  exact Nat.le_trans h2 (by decide)
theorem lG {R A:Type} {f:R→PV} {Q:PV→A→Prop}:∀ (es:List R),(∀ r∈es,∃ a,Q (f r) a)→∃ l:List A,l.length=es.length∧∀ (k:Nat) v a,(es.map f)[k]? =some v→l[k]? =some a→Q v a
 | [],_=>⟨[],rfl,by simp⟩
 |r::es,h=>by
  obtain⟨a,ha⟩:=h r (by simp)
  obtain⟨l,h1,h2⟩:=lG es fun x hx=>h x (by simp[hx])
  refine⟨a::l,by simp[h1],?_⟩
  intro k v b hv hb
  match k with
  |0=>simp at hv hb;subst hv hb;exact ha
  |k+1=>exact h2 k v b (by simpa using hv) (by simpa using hb)
theorem CR {g:Nat} {row:List PV} (h:Sh Tryz.prog (g+4) 39 row):∃ (P:PV) (ls:List (List (Int×Int))) (ps:List PV),row=[P]∧B1.Ze P ls ps∧ls.length * 24≤140737488355328:=by
 rcases Ry Tryz.underlying39 h with rfl | ⟨es,rfl,h1,h2,h3⟩
 ·exact⟨_,[],[],rfl,⟨.inl ⟨rfl,rfl⟩,rfl,by simp,by simp⟩,by simp⟩
 ·obtain⟨l,hl,hq⟩:=lG (f:=Dl Tryz.prog 42) (Q:=B1.Bn) es (by
   intro r hr
   obtain⟨V,l,rfl,hV⟩:=rR (h3 r hr)
   rw[BJ Tryz.underlying42]
   exact⟨l,hV⟩)
  have hz:l.length * 24≤140737488355328:=by rw[QT] at h2;rw[hl];exact Nat.le_trans h2 (by decide)
  exact⟨_,l,es.map (Dl Tryz.prog 42),rfl,⟨.inr (by rw[vU]),by rw[List.length_map,hl],hq,by unfold maxLen;omega⟩,hz⟩
theorem rS {g:Nat} {row:List PV} (h:Sh Tryz.prog (g+5) 41 row):∃ (s:B1.ic),(∃ P ps,B1.qf (Dl Tryz.prog 41 row) s P ps)∧s.parts.length * 24≤140737488355328:=by
 rw[Vv Tryz.underlying41]
 obtain⟨rows,hl,rfl,hr⟩:=Zv Tryz.underlying41 h
 match rows,hl with
 | [x,y],_=>
   obtain⟨P,ls,ps,rfl,hP,hz⟩:=CR (hr 0 _ x rfl rfl)
   obtain⟨b,rfl,_⟩:=Cx Tryz.underlying3 (hr 1 _ y rfl rfl)
   exact⟨⟨ls,b⟩,⟨P,ps,rfl,hP⟩,hz⟩
theorem fO {g:Nat} {row:List PV} (h:Sh Tryz.prog (g+6) 22 row):∃ (S:PV) (ss:List B1.ic) (es:List PV),row=[S]∧B1.pb S ss es∧B1.lD ss:=by
 rcases Ry Tryz.underlying22 h with rfl | ⟨es,rfl,h1,h2,h3⟩
 ·exact⟨_,[],[],rfl,⟨.inl ⟨rfl,rfl⟩,rfl,by simp,by simp⟩,⟨by simp,by simp⟩⟩
 ·obtain⟨l,hl,hq⟩:=lG (f:=Dl Tryz.prog 41) (Q:=fun e s=>(∃ P ps,B1.qf e s P ps)∧s.parts.length * 24≤140737488355328) es (fun r hr=>rS (h3 r hr))
  have hz:l.length * 32≤140737488355328:=by rw[xU] at h2;rw[hl];exact Nat.le_trans h2 (by decide)
  refine⟨_,l,es.map (Dl Tryz.prog 41),rfl,⟨.inr (by rw[wT]),by rw[List.length_map,hl],fun k e s he hs=>(hq k e s he hs).1,by unfold maxLen;omega⟩,hz,?_⟩
  intro s hs
  obtain⟨k,hk,rfl⟩:=List.getElem_of_mem hs
  exact (hq k _ _ (List.getElem?_eq_getElem (by rw[List.length_map];omega)) (List.getElem?_eq_getElem hk)).2
theorem lO {g:Nat} {row:List PV} (h:Sh Tryz.prog (g+7) 24 row):∃ (S:PV) (ss:List B1.ic) (es:List PV),row=[S]∧B1.pb S ss es∧B1.lD ss:=by
 obtain⟨rows,hl,rfl,hr⟩:=Zv Tryz.underlying24 h
 match rows,hl with
 | [x],_=>
   obtain⟨S,ss,es,rfl,h1,h2⟩:=fO (hr 0 _ x rfl rfl)
   exact⟨S,ss,es,rfl,h1,h2⟩
theorem own:ownKnob Tryz.prog.godebug=none:=by kernel_rfl
theorem laidOut:laidOutB Tryz.prog=true:=by kernel_rfl
theorem wf_i64 {n:Int} (h:(Lit.int .i64 n).wf=true): -9223372036854775808≤n∧n≤9223372036854775807:=by
 simp only[Lit.wf,Bool.and_eq_true,decide_eq_true_eq] at h
 exact h
end Go.Proofs.YtdglpnpkgngcdaaGreat
namespace Go.Proofs.YtdglpnpkgngcdaaGreat
open Go.ChangeShapes Go.WideShapes Go.ChangeAt Go.RowKit Go.AM
theorem tV:Tryz.prog.cellsOf 3=1:=by kernel_rfl
theorem wV:Tryz.prog.bytesOf 3=8:=by kernel_rfl
theorem MT {g:Nat} {row:List PV} (h:Sh Tryz.prog (g+2) 77 row):∃ (U:PV) (us:List Int),row=[U]∧B1.Ai 1 U (us.map B1.i64)∧us.length * 8≤reachBytes∧∀ u∈us,u≤9223372036854775807:=by
 rcases kU Tryz.underlying77 Tryz.underlying3 h with rfl | ⟨l,rfl,_,hl,hw⟩
 ·exact⟨_,[],rfl,.inl ⟨rfl,rfl⟩,Nat.zero_le _,by simp⟩
 ·rw[wV] at hl
  exact⟨_,l,rfl,.inr (by rw[tV]),hl,fun u hu=>(wf_i64 (hw u hu)).2⟩
theorem LV {g:Nat} {row:List PV} (h:Sh Tryz.prog (g+2) 83 row):∃ un repl:Int,row=[B1.i64 un,B1.i64 repl]:=by
 obtain⟨rows,hl,rfl,hr⟩:=Zv Tryz.underlying83 h
 match rows,hl with
 | [x,y],_=>
   obtain⟨a,rfl,_⟩:=Cx Tryz.underlying75 (hr 0 _ x rfl rfl)
   obtain⟨b,rfl,_⟩:=Cx Tryz.underlying3 (hr 1 _ y rfl rfl)
   exact⟨a,b,rfl⟩
end Go.Proofs.YtdglpnpkgngcdaaGreat
