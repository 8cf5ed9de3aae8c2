/- What functions of the program compute. -/
import Derived.Test.YtdglpnpkgngcdaaGreatP9
import Derived.Test.YtdglpnpkgngcdaaGreatP13
import Derived.Test.YtdglpnpkgngcdaaGreatP3
import Derived.Test.YtdglpnpkgngcdaaGreatP12
import Derived.Test.YtdglpnpkgngcdaaGreatP1
import Derived.Test.YtdglpnpkgngcdaaGreatP11
set_option linter.unusedVariables false
set_option linter.unusedSimpArgs false
namespace Go.AM.B1
open Go.AM Go.AM.So
end Go.AM.B1
namespace Go.AM.B1
open Go.AM Go.AM.So
theorem aS (x:ByteArray):(x.data.toList==x.data.toList)=true:=by simp
end Go.AM.B1
namespace Go.AM.B1
open Go.AM Go.AM.So
theorem FI {ss:List qc} (h:∀ s∈ss,∀ l∈s.parts,l.length≤1000) (h2:∀ s∈ss,s.parts.length≤1000) (h3:ss.length≤1000):Za (.lit 2 (ss.map We)) ss (ss.map We):=by
 refine⟨.inr rfl,by rw[List.length_map],fun k e s he hs=> ?_,by unfold maxLen;omega⟩
 rw[List.getElem?_map,hs] at he
 injection he with he
 have hm:=List.mem_of_getElem? hs
 refine⟨_,_,he.symm,.inr rfl,by rw[List.length_map],fun j v l hv hl=> ?_,by have:=h2 s hm;unfold maxLen;omega⟩
 rw[List.getElem?_map,hl] at hv
 injection hv with hv
 have:=h s hm l (List.mem_of_getElem? hl)
 exact⟨.inr hv.symm,by omega⟩
theorem KJ {ss:List qc} {l:List (List Af)} {a b c d:Int} (hh:Za (.lit 2 (ss.map We)) ss (ss.map We)) (hv:ng [.agg [.lit 2 (ss.map We)]]=some (.bool true)) (hp:Ve [.agg [.lit 2 (ss.map We)]]=some (.ic [.agg [.bool true,i64 a,i64 b],i64 0]))
 (hi:fh [.agg [.lit 2 (ss.map We)]]=some (.ic [.agg [.bool true,i64 c,i64 d],i64 0])) (ha:oh ss=some l):
 Fc ss∧∃ T,Eb [.agg [.lit 2 (ss.map We)]]=some (.ic [T,i64 0])∧uv T ss l∧∀ e∈l,Rn e:=by
 obtain⟨x,h1,h2⟩:=Vk hh
 rw[hv] at h1
 injection h1 with h1
 injection h1 with h1
 have Ba:=h2.1 h1.symm
 obtain⟨y,a',b',h3,h4⟩:=(zE hh).2 Ba
 rw[hp] at h3
 injection h3 with h3
 injection h3 with h3
 injection h3 with h3 _
 injection h3 with h3
 injection h3 with h3 _
 injection h3 with h3
 have hpre:=h4.1 h3.symm
 obtain⟨T,t1,t2⟩:=WC hh Ba hpre ha hi
 exact⟨Ba,T,t1,t2,JD Ba hpre ha⟩
end Go.AM.B1
namespace Go.AM.B1
open Go.AM Go.AM.So
def vC (cd:Int→Option (List Int)) (un repl:Int):Int:=if un < 1∨un > 3 then 180 else if un=2∧cd repl=none then 190 else 0
def eE (cd:Int→Option (List Int)) (un repl:Int):List Int:=if un=2 then (cd repl).getD [] else []
theorem PD.of {T:PV} {ss:List qc} {l:List (List Af)} (hT:uv T ss l) (Ba:Fc ss):PD T fun u=>Tv u ss:=by
 refine⟨fun u=>sT hT Ba u,fun u b h=> ?_,?_⟩
 ·obtain⟨s,hs,h1,h2,rfl,_⟩:=Uy Ba.gu h
  have hk:=Ba.gu s hs
  have:=(Wl s.parts (u - s.first) 0 hk.parts (by omega) (by omega)).2.1
  have:=hk.hi
  omega
 ·obtain⟨S',NX,DG,RW,h,_⟩:=hT.ex
  exact⟨_,h⟩
section
variable {H:List ba} {T:PV} {cd:Int→Option (List Int)} {call:Ta}
theorem BV (un repl:Int):xe call Ee [.pv .Ye,.pv (i64 un),.pv (i64 repl)] H=some (.pv (.ic [.Ye,i64 2]),H):=by
 have e1:Jr H 1 (.pv .Ye) (.pv .Ye)=some true:=rfl
 simp -implicitDefEqProofs only[SX,sevalprocAttr,Ee,e1]
theorem gV (hT:PD T cd) {un repl:Int} (h:vC cd un repl≠0):∃ X,xe call Ee [.pv T,.pv (i64 un),.pv (i64 repl)] H=some (.pv (.ic [.Ye,i64 (vC cd un repl)]),H++X)∧∀ n,∀ o∈X,oa n o=some o:=by
 obtain⟨R,rfl⟩:=hT.ptr
 have e1:Jr H 1 (.pv (.rp R 0)) (.pv .Ye)=some false:=rfl
 have hm:∀ a b:PV,Ut [.pv a,.pv b]= .pv (.ic [a,b]):=fun _ _=>rfl
 by_cases h1:un < 1∨un > 3
 ·refine⟨[],?_,by simp⟩
  rw[vC,if_pos h1]
  by_cases h2:un < 1
  ·have d1:decide (un < 1)=true:=decide_eq_true h2
   simp -implicitDefEqProofs only[SX,sevalprocAttr,Ee,e1,d1,hm,List.append_nil]
  ·have d1:decide (un < 1)=false:=decide_eq_false h2
   have d2:decide (un > 3)=true:=decide_eq_true (by omega)
   simp -implicitDefEqProofs only[SX,sevalprocAttr,Ee,e1,d1,d2,hm,List.append_nil]
 ·rw[vC,if_neg h1] at h ⊢
  by_cases h2:un=2∧cd repl=none
  ·rw[if_pos h2]
   obtain⟨rfl,h3⟩:=h2
   have hen:=hT.enc repl
   rw[h3] at hen
   have d1:decide ((2:Int) < 1)=false:=rfl
   have d2:decide ((2:Int) > 3)=false:=rfl
   have d3:((2:Int)==2)=true:=rfl
   refine⟨[bc (.rp R 0) .fa 2 0 0 false false],?_,fun n o ho=>by
    simp only[List.mem_cons,List.not_mem_nil,or_false] at ho
    subst ho;exact Xh _ _⟩
   simp -implicitDefEqProofs only[SX,sevalprocAttr,Ee,e1,d1,d2,d3,hen,hm,ga.eq_1,ga.eq_2,List.set,Dd,Ln]
  ·rw[if_neg h2] at h;exact absurd rfl h
theorem SR (hT:PD T cd) {un repl:Int} (h:vC cd un repl=0):∃ R,xe call Ee [.pv T,.pv (i64 un),.pv (i64 repl)] H=some (.ic [.ptr H.length 0,.pv (i64 0)],H++[bc T R un 0 0 false false])∧
 (un=2→R= .lit 1 ((eE cd un repl).map u8))∧(un≠2→eE cd un repl=[])∧(eE cd un repl).length≤8∧1≤un∧un≤3∧(un=2→cd repl=some (eE cd un repl)):=by
 obtain⟨R,rfl⟩:=hT.ptr
 have e1:Jr H 1 (.pv (.rp R 0)) (.pv .Ye)=some false:=rfl
 have hm:Ut [.ptr H.length 0,.pv (i64 0)]= .ic [.ptr H.length 0,.pv (i64 0)]:=rfl
 rw[vC] at h
 by_cases h1:un < 1∨un > 3
 ·rw[if_pos h1] at h;cases h
 ·rw[if_neg h1] at h
  have d1:decide (un < 1)=false:=decide_eq_false (by omega)
  have d2:decide (un > 3)=false:=decide_eq_false (by omega)
  by_cases h2:un=2
  ·cases h3:cd repl with
   |none=>rw[if_pos ⟨h2,h3⟩] at h;cases h
   |some b=>
    have hen:=hT.enc repl
    rw[h3] at hen
    subst h2
    have d3:((2:Int)==2)=true:=rfl
    have hr:eE cd 2 repl=b:=by rw[eE,if_pos rfl,h3];rfl
    rw[hr]
    have g1:(H++[ba.box [.pv (.rp R 0),.pv (i64 2),.pv .fa,.pv (i64 0),.pv (i64 0),.pv (.bool false),.pv (.bool false)]])[H.length]? =some (.box [.pv (.rp R 0),.pv (i64 2),.pv .fa,.pv (i64 0),.pv (i64 0),.pv (.bool false),.pv (.bool false)]):=by simp
    have p1:=fun d=>gd g1 d 0
    have s1:Ea (H++[ba.box [.pv (.rp R 0),.pv (i64 2),.pv .fa,.pv (i64 0),.pv (i64 0),.pv (.bool false),.pv (.bool false)]]) 1 (.ptr H.length 2) (.pv (.lit 1 (b.map u8)))=some (H++[bc (.rp R 0) (.lit 1 (b.map u8)) 2 0 0 false false]):=by
     simp only[Ea,g1]
     rw[if_pos ⟨rfl,rfl⟩,if_pos (by simp)]
     simp[Ln,AV.cells,PV.cells,ga]
    refine⟨.lit 1 (b.map u8),?_,fun _=>rfl,fun h=>absurd rfl h,hT.len _ _ h3,by omega,by omega,fun _=>rfl⟩
    simp -implicitDefEqProofs only[SX,sevalprocAttr,Ee,e1,d1,d2,d3,hen,hm,ga.eq_1,ga.eq_2,List.set,Dd,p1,s1]
  ·have d3:(un==2)=false:=beq_false_of_ne h2
   have hr:eE cd un repl=[]:=by rw[eE,if_neg h2]
   refine⟨.fa,?_,fun h=>absurd h h2,fun _=>hr,by rw[hr];exact Nat.zero_le _,by omega,by omega,fun h=>absurd h h2⟩
   simp -implicitDefEqProofs only[SX,sevalprocAttr,Ee,e1,d1,d2,d3,hm,ga.eq_1,ga.eq_2,List.set,Dd,Ln]
end
theorem Jw {H:List ba} {c:Nat} {T R:PV} {un tot out:Int} {st fin:Bool} (hc:H[c]? =some (bc T R un tot out st fin)):Rb H 6 (.ptr c 0)=some (.rp [T,i64 un,R,i64 tot,i64 out,.bool st,.bool fin] 0):=by
 show (match H[c]? with | some (.box cells)=>(Pa (Rb H 5) cells).map fun ps=>PV.rp ps 0 | _=>none)=_
 rw[hc];rfl
theorem Xz {T R:PV} {un tot out:Int} {st fin:Bool}:Ah [.rp [T,i64 un,R,i64 tot,i64 out,.bool st,.bool fin] 0]=some (i64 tot):=by kernel_rfl
theorem lz {T R:PV} {un tot out:Int} {st fin:Bool}:Oi [.rp [T,i64 un,R,i64 tot,i64 out,.bool st,.bool fin] 0]=some (i64 out):=by kernel_rfl
theorem Xy {T R:PV} {un tot out:Int} {st fin:Bool}:Vi [.rp [T,i64 un,R,i64 tot,i64 out,.bool st,.bool fin] 0]=some (.bool st):=by kernel_rfl
theorem UT {A:List ba} {c:Nat} {call:Ta} {call':Ta} (hcall:∀ H n,call 62 [.ptr c 0,.pv (i64 n)] H=xe call' qb [.ptr c 0,.pv (i64 n)] H) {T R:PV} {un tot out:Int} {st fin:Bool} {U:AV} {us:List Int} {n0:Nat} (hU:wC U us n0) (ht0:0≤tot) (ht1:tot≤65536) (hb:A[c]? =some (bc T R un tot out st fin))
 {e:Int} (he:e=if fin then 181 else if st then 182 else if (us.length:Int) > 65536 - tot then 183 else 0) (h0:e≠0):
 xe call zc [.ptr c 0,U] A=some (.pv (.ic [.fa,.fa,i64 e]),A):=by
 have hf:=hcall A us.length
 rw[nH hb ht0 ht1,←he] at hf
 have lU:=hU.len
 have d1:(e != 0)=true:=by simp[h0]
 have hm:∀ a b c:PV,Ut [.pv a,.pv b,.pv c]= .pv (.ic [a,b,c]):=fun _ _ _=>rfl
 simp -implicitDefEqProofs only[SX,sevalprocAttr,zc,hf,lU,d1,hm]
def fu:List qc:=[⟨[[(0,127)]],0⟩,⟨[[(194,223)],[(128,191)]],128⟩,⟨[[(225,225)],[(128,191)],[(128,191)]],4096⟩]
theorem TI:ng [.agg [.lit 2 (fu.map We)]]=some (.bool true):=by kernel_rfl
theorem PH:Ve [.agg [.lit 2 (fu.map We)]]=some (.ic [.agg [.bool true,i64 0,i64 0],i64 0]):=by kernel_rfl
theorem NH:fh [.agg [.lit 2 (fu.map We)]]=some (.ic [.agg [.bool true,i64 0,i64 0],i64 0]):=by kernel_rfl
theorem mN:(oh fu).isSome=true:=by kernel_rfl
theorem bV:∃ T,Ri []=some T∧PD T fun u=>Tv u fu:=by
 obtain⟨l,hl⟩:=Option.isSome_iff_exists.1 mN
 obtain⟨Ba,T,h1,hT,_⟩:=KJ (FI (by decide) (by decide) (by decide)) TI PH NH hl
 refine⟨T,?_,PD.of hT Ba⟩
 have hdoc:(.lit 2 (fu.map We):PV)= .lit 2 [.agg [.lit 1 [.lit 2 [.agg [i64 0,i64 127]]],i64 0],.agg [.lit 1 [.lit 2 [.agg [i64 194,i64 223]],.lit 2 [.agg [i64 128,i64 191]]],i64 128],.agg [.lit 1 [.lit 2 [.agg [i64 225,i64 225]],.lit 2 [.agg [i64 128,i64 191]],.lit 2 [.agg [i64 128,i64 191]]],i64 4096]]:=rfl
 rw[hdoc] at h1
 obtain⟨R,hR⟩:=(PD.of hT Ba).ptr
 subst hR
 simp -implicitDefEqProofs only[Ri,SX,sevalprocAttr,Ik,h1,ga.eq_1,ga.eq_2,List.set,Dd]
end Go.AM.B1
namespace Go.AM.B1
open Go.AM Go.AM.So
theorem RG {A:List ba} {c:Nat} (hA:He A) {T R:PV} {un tot out:Int} {st fin:Bool} (k1:Nat) (n1:Bool) (k5:Nat) (n5:Bool):He (Ak A c (bc T R un tot out st fin) k1 n1 k5 n5):=by
 intro n hn o ho
 rw[Nn] at hn
 unfold Ak at ho
 rcases List.mem_append.1 ho with h | h
 ·rcases List.mem_or_eq_of_mem_set h with h | rfl
  ·exact hA _ (by omega) _ h
  ·exact Xh _ _
 ·simp only[List.mem_cons,List.not_mem_nil,or_false] at h
  rcases h with rfl | rfl <;> rfl
theorem FG {T R:PV} {un tot out:Int} {st fin:Bool}:He [bc T R un tot out st fin]:=by
 intro n hn o ho
 simp only[List.mem_cons,List.not_mem_nil,or_false] at ho
 subst ho;exact Xh _ _
theorem wC.lit (us:List Int) (n0:Nat):wC (.pv (.lit 1 (us.map i64))) us n0:=by
 refine⟨fun H=>by simp[Tb],fun H i h=> ?_,fun n hn=>Qa⟩
 simp only[wa]
 rw[if_pos ⟨trivial,by unfold Ga;rw[List.length_map];omega⟩,Int.toNat_natCast,List.getElem?_map,List.getElem?_eq_getElem h];rfl
theorem wC.fa (n0:Nat):wC (.pv .fa) [] n0:=⟨fun H=>rfl,fun H i h=>by simp at h,fun n hn=>Qa⟩
theorem wC.uq (us:List Int) {id n0:Nat} (nl:Bool) (h:id < n0):wC (.uq id nl 1 (us.map i64)) us n0:=by
 refine⟨fun H=>by simp[Tb],fun H i h=> ?_,fun n hn=>vn (by omega)⟩
 simp only[wa]
 rw[if_pos ⟨trivial,by unfold Ga;rw[List.length_map];omega⟩,Int.toNat_natCast,List.getElem?_map,List.getElem?_eq_getElem h];rfl
theorem tY:Tv 65 fu=some [65]:=by decide
theorem iY:Tv 66 fu=some [66]:=by decide
theorem PX:Tv 233 fu=some [195,169]:=by decide
theorem IV:Tv 3000 fu=none:=by decide
theorem gR:Xi (fun u=>Tv u fu) 2 [63] 0 0 0 [] [] [65,233]=([65,195,169],[],false):=by
 simp only[Xi,tY,PX];rfl
theorem OQ:Xi (fun u=>Tv u fu) 2 [63] 2 3 0 [] [] [3000,66]=([63,66],[Hx 2 3000 3],false):=by
 simp only[Xi,IV,iY];rfl
theorem pJ:Ch []=some (.bool true):=by
 obtain⟨T,htw,hT⟩:=bV
 have hn:=SR (H:=[]) (call:=Ca Wb 7) hT (un:=2) (repl:=63) (by kernel_rfl)
 rw[show eE (fun u=>Tv u fu) 2 63=[63] by kernel_rfl] at hn
 obtain⟨R,hn,hR,hR2,hR3,_⟩:=hn
 have h62:∀ c H n,Ca Wb 7 62 [.ptr c 0,.pv (i64 n)] H=xe (Ca Wb 6) qb [.ptr c 0,.pv (i64 n)] H:=fun _ _ _=>rfl
 obtain⟨r,hr,acc,evs,st,n1,n5,rfl,hgo,hn1,hn5,_⟩:=pc (HE (c:=0) (call:=Ca Wb 7) (h62 0) FG (by simp) hT hR hR2 hR3 (wC.lit [65,233] 1) (tot:=0) (out:=0) (by decide) (by decide) (by decide) (by decide) (A:=[bc T R 2 0 0 false false]) rfl)
 replace hgo:=gR.symm.trans hgo
 have q1:[65,195,169]=acc:=congrArg (fun x=>x.1) hgo
 have q2:[]=evs:=congrArg (fun x=>x.2.1) hgo
 have q3:false=st:=congrArg (fun x=>x.2.2) hgo
 subst q1 q2 q3
 have hn1:n1=false:=by cases n1 with | false=>rfl | true=>cases hn1 rfl
 subst hn1
 obtain⟨A2,hA2⟩:∃ A,A=Ak [bc T R 2 0 0 false false] 0 (bc T R 2 2 3 false false) 3 false 0 n5:=⟨_,rfl⟩
 have hA2g:He A2:=by rw[hA2];exact RG FG _ _ _ _
 obtain⟨r,hr2,acc,evs,st,m1,m5,rfl,hgo,hm1,hm5,_⟩:=pc (HE (c:=0) (call:=Ca Wb 7) (h62 0) hA2g (by rw[hA2];simp[Ak]) hT hR hR2 hR3 (wC.lit [3000,66] _) (tot:=2) (out:=3) (by decide) (by decide) (by decide) (by decide) (by rw[hA2];rfl))
 replace hgo:=OQ.symm.trans hgo
 have q1:[63,66]=acc:=congrArg (fun x=>x.1) hgo
 have q2:[Hx 2 3000 3]=evs:=congrArg (fun x=>x.2.1) hgo
 have q3:false=st:=congrArg (fun x=>x.2.2) hgo
 subst q1 q2 q3
 have hm1:m1=false:=by cases m1 with | false=>rfl | true=>cases hm1 rfl
 have hm5:m5=false:=by cases m5 with | false=>rfl | true=>cases hm5 rfl
 subst hm1 hm5
 rw[show Ak [bc T R 2 0 0 false false] 0 (bc T R 2 (0+([65,233]:List Int).length) (0+([65,195,169]:List Int).length) false false) ([65,195,169]:List Int).length false ([]:List PV).length n5=A2 from hA2.symm] at hr
 have hA2l:A2.length=3:=by rw[hA2];rfl
 rw[hA2l] at hr2
 obtain⟨A3,hA3⟩:∃ A,A=Ak A2 0 (bc T R 2 4 5 false false) 2 false 1 false:=⟨_,rfl⟩
 rw[show Ak A2 0 (bc T R 2 (2+([3000,66]:List Int).length) (3+([63,66]:List Int).length) false false) ([63,66]:List Int).length false [Hx 2 3000 3].length false=A3 from hA3.symm] at hr2
 have hA3c:A3[0]? =some (bc T R 2 4 5 false false):=by rw[hA3];exact Sq (by omega) _ _ _ _ _
 have htp:=Jw hA3c
 have htot:=Xz (T:=T) (R:=R) (un:=2) (tot:=4) (out:=5) (st:=false) (fin:=false)
 have hout:=lz (T:=T) (R:=R) (un:=2) (tot:=4) (out:=5) (st:=false) (fin:=false)
 have hsm:ye [.lit 5 [Hx 2 3000 3],.lit 5 [.agg [.int .i64 4,.int .i64 2,.int .i64 1,.int .i64 3000,.int .i64 3]]]=some (.bool true):=by kernel_rfl
 have e0:∀ H:List ba,H=[bc T R 2 0 0 false false]→Jr H 1 (.ptr 0 0) (.pv .Ye)=some false:=fun H h=>by subst h;rfl
 have e1:Jr [bc T R 2 0 0 false false] 1 (.ptr 0 0) (.pv .Ye)=some false:=rfl
 have z0:((0:Int) != 0)=false:=rfl
 have z1:((0:Int)==0)=true:=rfl
 have z2:((4:Int)==4)=true:=rfl
 have z3:((5:Int)==5)=true:=rfl
 have y1:cB .eql ⟨#[65,195,169]⟩ ⟨#[65,195,169]⟩=some (.bool true):=rfl
 have y2:cB .eql ⟨#[63,66]⟩ ⟨#[63,66]⟩=some (.bool true):=rfl
 have b1:∀ H,pz H (.uq 1 false 1 [u8 65,u8 195,u8 169])=some ⟨#[65,195,169]⟩:=fun H=>rfl
 have b2:∀ H,pz H (.uq 3 false 1 [u8 63,u8 66])=some ⟨#[63,66]⟩:=fun H=>rfl
 have u1:∀ H n,Rb H 6 (.uq n false 5 [Hx 2 3000 3])=some (.lit 5 [Hx 2 3000 3]):=fun H n=>rfl
 obtain⟨call,hcall⟩:∃ x,x=Ca Wb 8:=⟨_,rfl⟩
 have k60:∀ un repl,call 60 [.pv T,.pv (i64 un),.pv (i64 repl)] []=xe (Ca Wb 7) Ee [.pv T,.pv (i64 un),.pv (i64 repl)] []:=fun _ _=>by rw[hcall];rfl
 have k61:∀ c U H,call 61 [.ptr c 0,U] H=xe (Ca Wb 7) zc [.ptr c 0,U] H:=fun _ _ _=>by rw[hcall];rfl
 rw[← k60] at hn
 rw[← k61] at hr hr2
 replace hr:call 61 [.ptr 0 0,.pv (.lit 1 [.int .i64 65,.int .i64 233])] [bc T R 2 0 0 false false]=some (.ic [.uq 1 false 1 [u8 65,u8 195,u8 169],.uq 2 n5 5 [],.pv (.int .i64 0)],A2):=hr
 replace hr2:call 61 [.ptr 0 0,.pv (.lit 1 [.int .i64 3000,.int .i64 66])] A2=some (.ic [.uq 3 false 1 [u8 63,u8 66],.uq 4 false 5 [Hx 2 3000 3],.pv (.int .i64 0)],A3):=hr2
 rw[Ch,Zb,←hcall]
 clear k60 k61 hcall hA2 hA3
 obtain⟨B,hB⟩:∃ B,B=[bc T R 2 0 0 false false]:=⟨_,rfl⟩
 rw[List.nil_append,List.length_nil,←hB] at hn
 rw[← hB] at hr e1
 simp -implicitDefEqProofs only[SX,sevalprocAttr,Bj,htw,hn,hr,hr2,htot,hout,htp,hsm,e1,z0,z1,z2,z3,y1,y2,b1,b2,u1,ga.eq_1,ga.eq_2,List.set,Dd]
end Go.AM.B1
namespace Go.AM.B1
open Go.AM Go.AM.So
theorem xB (fin st:Bool) (tot:Int) (n:Nat) (h0:0≤tot) (h1:tot≤65536):ae [.bool fin,.bool st,i64 tot,i64 n]=some (i64 (if fin then 181 else if st then 182 else if (n:Int) > 65536 - tot then 183 else 0)):=by
 have w1:IntKind.i64.wrap (65536 - tot)=65536 - tot:=Aa (by omega)
 cases fin with
 |true=>simp -implicitDefEqProofs only[ae,SX,sevalprocAttr,gf]
 |false=>
  cases st with
  |true=>simp -implicitDefEqProofs only[ae,SX,sevalprocAttr,gf,Bool.false_eq_true,if_false]
  |false=>
   by_cases h:(n:Int) > 65536 - tot
   ·have d1:decide ((n:Int) > 65536 - tot)=true:=decide_eq_true h
    simp -implicitDefEqProofs only[ae,SX,sevalprocAttr,gf,w1,d1,Bool.false_eq_true,if_false,if_pos h]
   ·have d1:decide ((n:Int) > 65536 - tot)=false:=decide_eq_false h
    simp -implicitDefEqProofs only[ae,SX,sevalprocAttr,gf,w1,d1,Bool.false_eq_true,if_false,if_neg h]
section
variable {A:List ba} {c:Nat} {call:Ta} {S R:PV} {ss:List qc} {es:List PV} {un tot out:Int} {rb:List Int}
structure Zy (H:List ba) (c:Nat) (S R:PV) (un tot out:Int) (st fin:Bool):Prop where
 ld:∀ o,ta H false 1 (.ptr c o)=Og false 1 [.pv S,.pv (i64 un),.pv R,.pv (i64 tot),.pv (i64 out),.pv (.bool st),.pv (.bool fin)] o
 pl:∀ d,place H d (.ptr c 0)=some (.ptr c (0+d))
 l0:ta H true 1 (.ptr c 0)=some (.pv (.agg [S]))
 nn:Jr H 1 (.ptr c 0) (.pv .Ye)=some false
theorem Zy.of {H:List ba} {st fin:Bool} (h:H[c]? =some (bc S R un tot out st fin)):Zy H c S R un tot out st fin:=by
 have hB:bc S R un tot out st fin= .box [.pv S,.pv (i64 un),.pv R,.pv (i64 tot),.pv (i64 out),.pv (.bool st),.pv (.bool fin)]:=rfl
 refine⟨fun o=>by simp only[ta,h,hB],fun d=>gd h d 0,by simp only[ta,h,hB];rfl,by simp only[Jr,h,hB]⟩
theorem Zy.get {H:List ba} {st fin:Bool} (h:Zy H c S R un tot out st fin):ta H false 1 (.ptr c 1)=some (.pv (i64 un))∧ta H false 1 (.ptr c 2)=some (.pv R)∧ta H false 1 (.ptr c 3)=some (.pv (i64 tot))∧ta H false 1 (.ptr c 4)=some (.pv (i64 out))∧ta H false 1 (.ptr c 5)=some (.pv (.bool st))∧ta H false 1 (.ptr c 6)=some (.pv (.bool fin))∧ta H true 1 (.ptr c 0)=some (.pv (.agg [S]))∧∀ d,place H d (.ptr c 0)=some (.ptr c (0+d)):=
 ⟨h.ld _,h.ld _,h.ld _,h.ld _,h.ld _,h.ld _,h.l0,h.pl⟩
theorem LS (hA:He A) (S R:PV) (un tot out:Int) (st fin:Bool) (k1:Nat) (n1:Bool) (k5:Nat) (n5:Bool):∀ o∈Ak A c (bc S R un tot out st fin) k1 n1 k5 n5,oa (A.length+2) o=some o:=wK hA k1 n1 k5 n5
theorem VL {H:List ba} {id n bytes:Nat} {nl nl':Bool} {es:List PV} (hR:R= .fa∧rb=[]∨R= .lit 1 (rb.map u8)) (hg:H[id]? =some (.tok 1 n nl')) (hn:n=es.length) (hr:ab (es.length+rb.length) bytes):
 Gb H false .uq 1 false bytes (.uq id nl 1 es) (.pv R)=some (.uq id (nl&&(rb.map u8).isEmpty) 1 (es++rb.map u8),H.set id (.tok 1 (es.length+rb.length) (nl&&(rb.map u8).isEmpty))):=by
 subst hn
 rcases hR with⟨rfl,rfl⟩ | rfl
 ·simp only[Gb,Bool.false_eq_true,if_false,hg,xf,if_true,Option.bind_some]
  rw[if_pos ⟨trivial,trivial,trivial,by simpa using hr⟩];simp
 ·have:=Gy (ag:=false) (h:= .uq) (nl:=nl) hg rfl (ys:=rb.map u8) (by simpa using hr)
  rw[List.length_map] at this
  exact this
theorem zM (hS:Za S ss es) (Ba:Fc ss) (hA:He A) (hc:c < A.length) (hR:R= .fa∧rb=[]∨R= .lit 1 (rb.map u8)) (hrb:rb.length≤8) (hn:un=3→rb=[])
 {U:PV} {us:List Int} (hU:Vh 1 U (us.map i64)) (ht0:0≤tot) (ht1:tot+us.length≤65536) (ho0:0≤out) (ho1:out≤524288) {E0:Tr}
 (h0:E0.get 0= .ptr c 0) (h1:E0.get 1= .pv U) (h8:E0.get 8= .uq A.length true 1 []) (h9:E0.get 9= .uq (A.length+1) true 5 []) (h10:E0.get 10= .pv (i64 0)):
 Pd (fun r=>r.1.stop=true∧∃ E acc evs st n1 n5,r=(.exit 0,⟨E,Ak A c (bc S R un tot out st false) acc.length n1 evs.length n5⟩)∧E.get 0= .ptr c 0∧E.get 1= .pv U∧E.get 8= .uq A.length n1 1 (acc.map u8)∧E.get 9= .uq (A.length+1) n5 5 evs∧
  Xi (fun u=>Tv u ss) un rb tot out 0 [] [] us=(acc,evs,st)∧(n1=true→acc=[])∧(n5=true→evs=[])∧acc.length≤8 * us.length)
  (qa call (.loop [0,1,8,9,10] Ac) ⟨E0,Ak A c (bc S R un tot out false false) 0 true 0 true⟩):=by
 have hlenU:=fun H=>hU.len H
 have lU:∀ H,Tb H 0 (.pv U)=some us.length:=fun H=>by rw[hlenU,List.length_map]
 have hat:∀ H (i:Nat) (h:i < us.length),wa H 1 (.pv U) (i:Int)=some (.pv (.rp [i64 us[i]] 0)):=fun H i h=>by
  rw[hU.lit (i:=i) (by rw[List.length_map];exact h)]
  simp only[wa]
  rw[if_pos ⟨trivial,by unfold Ga;rw[List.length_map];omega⟩,Int.toNat_natCast,List.getElem?_map,List.getElem?_eq_getElem h];rfl
 refine Us (σ:=Nat×List Int×List PV×Bool×Bool×Bool)
  (fun x=>[(0,.ptr c 0),(1,.pv U),(8,.uq A.length x.2.2.2.2.1 1 (x.2.1.map u8)),(9,.uq (A.length+1) x.2.2.2.2.2 5 x.2.2.1),(10,.pv (i64 x.1))])
  (fun x=>Ak A c (bc S R un tot out x.2.2.2.1 false) x.2.1.length x.2.2.2.2.1 x.2.2.1.length x.2.2.2.2.2)
  (fun k x=>x.1=k∧Xi (fun u=>Tv u ss) un rb tot out 0 [] [] us=(if x.2.2.2.1 then (x.2.1,x.2.2.1,true) else Xi (fun u=>Tv u ss) un rb tot out k x.2.1 x.2.2.1 (us.drop k))∧(x.2.2.2.2.1=true→x.2.1=[])∧(x.2.2.2.2.2=true→x.2.2.1=[])∧x.2.1.length≤8 * k∧x.2.2.1.length≤k)
  us.length (by unfold pa;omega) (fun _=>rfl) ?_ ?_ ?_ ?_
 ·rintro i x _
  rw[Nn]
  exact⟨by simp[Dr,IE,PU,show c < A.length+2 by omega],LS hA _ _ _ _ _ _ _ _ _ _ _,Nn ..⟩
 ·exact⟨(0,[],[],false,true,true),⟨h0,h1,h8,h9,h10,trivial⟩,rfl,rfl,rfl,fun _=>rfl,fun _=>rfl,Nat.le_refl _,Nat.le_refl _⟩
 ·rintro _ ⟨i,acc,evs,st,n1,n5⟩ E hi ⟨rfl,k4,k5,k6,k7,k10⟩ ⟨g0,g1,g8,g9,g10,_⟩
  simp only at hi k4 k5 k6 k7 k10 g0 g1 g8 g9 g10
  have hb:=fun st k1 n1 k5 n5=>(Zy.of (Sq hc (bc S R un tot out st false) k1 n1 k5 n5)).get
  have e1:decide ((i:Int) < (us.length:Int))=true:=Fa (by omega)
  have lu:∀ H,Tb H 0 (.uq A.length n1 1 (acc.map u8))=some acc.length:=fun H=>by simp[Tb]
  cases st with
  |true=>
   generalize hQ:RH _ _ _ _=Q
   simp -implicitDefEqProofs only[SX,sevalprocAttr,Ac,g0,g1,g8,g9,g10,lU,e1,hb]
   subst hQ
   exact⟨_,acc,evs,true,n1,n5,rfl,by simp[Tr.aa,g0],by simp[Tr.aa,g1],by simp[Tr.aa,g8],by simp[Tr.aa,g9],by simpa using k4,k5,k6,by omega⟩
  |false=>
   have hat:=fun H=>hat H i hi
   have t1:IntKind.i64.wrap ((i:Int)+1)=((i+1:Nat):Int):=fj (by omega)
   have t2:IntKind.i64.wrap (tot+(i:Int))=tot+i:=Aa (by omega)
   have t3:IntKind.i64.wrap (out+(acc.length:Int))=out+acc.length:=Aa (by omega)
   have hof:=fE hS Ba us[i]
   rw[if_neg (by simp),List.drop_eq_getElem_cons hi,Xi] at k4
   have hl8:∀ b,Tv us[i] ss=some b→b.length≤8:=fun b h=>by
    obtain⟨s,hs,h1,h2,rfl,_⟩:=Uy Ba.gu h
    have hk:=Ba.gu s hs
    have:=(Wl s.parts (us[i] - s.first) 0 hk.parts (by omega) (by omega)).2.1
    have:=hk.hi
    omega
   generalize us[i]=u at *
   have ap1:∀ st k5 n5 (b:List Int) (V:PV),(V= .fa∧b=[]∨V= .lit 1 (b.map u8))→b.length≤8→Gb (Ak A c (bc S R un tot out st false) acc.length n1 k5 n5) false .uq 1 false 1 (.uq A.length n1 1 (acc.map u8)) (.pv V)=some (.uq A.length (n1&&(b.map u8).isEmpty) 1 ((acc++b).map u8),Ak A c (bc S R un tot out st false) (acc++b).length (n1&&(b.map u8).isEmpty) k5 n5):=fun st k5 n5 b V hV hb=>by
    rw[VL hV (bX _ _ _ _ _) (by rw[List.length_map]) (by unfold ab;rw[List.length_map];omega),rJ,List.map_append,List.length_map,List.length_append]
   have ap5:∀ e,Gb (Ak A c (bc S R un tot out false false) acc.length n1 evs.length n5) false .uq 5 true 40 (.uq (A.length+1) n5 5 evs) (.pv (.lit 5 [e]))=some (.uq (A.length+1) false 5 (evs++[e]),Ak A c (bc S R un tot out false false) acc.length n1 (evs++[e]).length false):=fun e=>by
    rw[Lg (WW _ _ _ _ _) rfl (by unfold ab;omega),nJ,List.length_append];rfl
   have s5:∀ k1 n1 k5 n5 (b:Bool),Ea (Ak A c (bc S R un tot out false false) k1 n1 k5 n5) 1 (.ptr c 5) (.pv (.bool b))=some (Ak A c (bc S R un tot out b false) k1 n1 k5 n5):=fun k1 n1 k5 n5 b=>by
    have h:=Zt hc (bc S R un tot out false false) (bc S R un tot out b false) k1 n1 k5 n5
    have hB:∀ st,bc S R un tot out st false= .box [.pv S,.pv (i64 un),.pv R,.pv (i64 tot),.pv (i64 out),.pv (.bool st),.pv (.bool false)]:=fun _=>rfl
    rw[← h]
    simp only[Ea,Sq hc,hB];rfl
   have m1:Ql (List.map AV.pv [PV.int .i64 0,.int .i64 0,.int .i64 0,.int .i64 0,.int .i64 0]) [(0,1,.pv (.int .i64 4)),(1,1,.pv (.int .i64 (tot+i))),(2,1,.pv (.int .i64 1)),(3,1,.pv (i64 u)),(4,1,.pv (.int .i64 (out+acc.length)))]=some ([i64 4,i64 (tot+i),i64 1,i64 u,i64 (out+acc.length)].map AV.pv):=rfl
   have hnil:∀ (b:List Int),(n1&&(b.map u8).isEmpty)=true→acc++b=[]:=fun b h=>by
    rw[Bool.and_eq_true] at h
    rw[k5 h.1]
    cases b with
    |nil=>rfl
    |cons x y=>simp at h
   generalize hQ:RH _ _ _ _=Q
   cases hcd:Tv u ss with
   |some b=>
    rw[hcd] at hof k4
    have hb8:=hl8 b hcd
    have ap:=ap1 false evs.length n5 b _ (.inr rfl) hb8
    simp -implicitDefEqProofs only[SX,sevalprocAttr,Ac,g0,g1,g8,g9,g10,lU,e1,hb,hat,Sa,hof,ap,t1]
    subst hQ
    exact⟨(i+1,acc++b,evs,false,n1&&(b.map u8).isEmpty,n5),[],by simp[Has,Tr.aa,g0,g1,g9],(List.append_nil _).symm,rfl,by rw[if_neg (by simp)];exact k4,hnil b,k6,by simp only[List.length_append];omega,by simp only;omega⟩
   |none=>
    rw[hcd] at hof k4
    have ap:=ap5 (Hx (tot+i) u (out+acc.length))
    unfold Hx at ap
    have ap':=fun st=>ap1 st (evs++[Hx (tot+i) u (out+acc.length)]).length false rb R hR hrb
    unfold Hx at ap'
    by_cases h3:un=3
    ·have d3:(un==3)=true:=by rw[h3];rfl
     rw[if_pos h3] at k4
     have hrb0:=hn h3
     subst hrb0
     simp -implicitDefEqProofs only[SX,sevalprocAttr,Ac,g0,g1,g8,g9,g10,lU,e1,hb,hat,Sa,hof,lu,t1,t2,t3,ap,d3,s5,ap',ga.eq_1,ga.eq_2,List.set,Dd]
     subst hQ
     exact⟨(i+1,acc++[],evs++[Hx (tot+i) u (out+acc.length)],true,n1&&(List.map u8 []).isEmpty,false),[],by simp[Has,Tr.aa,g0,g1,Hx],(List.append_nil _).symm,rfl,by rw[if_pos rfl,List.append_nil];exact k4,hnil [],fun h=>(by cases h),by simp;omega,by simp;omega⟩
    ·have d3:(un==3)=false:=beq_false_of_ne h3
     rw[if_neg h3] at k4
     simp -implicitDefEqProofs only[SX,sevalprocAttr,Ac,g0,g1,g8,g9,g10,lU,e1,hb,hat,Sa,hof,lu,t1,t2,t3,ap,d3,s5,ap',ga.eq_1,ga.eq_2,List.set,Dd]
     subst hQ
     exact⟨(i+1,acc++rb,evs++[Hx (tot+i) u (out+acc.length)],false,n1&&(rb.map u8).isEmpty,false),[],by simp[Has,Tr.aa,g0,g1,Hx],(List.append_nil _).symm,rfl,by rw[if_neg (by simp)];exact k4,hnil rb,fun h=>(by cases h),by simp only[List.length_append];omega,by simp;omega⟩
 ·rintro⟨i,acc,evs,st,n1,n5⟩ E ⟨h,k4,k5,k6,k7,k10⟩ ⟨g0,g1,g8,g9,g10,_⟩
  simp only at h k4 k5 k6 k7 k10 g0 g1 g8 g9 g10 ⊢
  subst h
  have e1:decide ((us.length:Int) < (us.length:Int))=false:=Ha (by omega)
  generalize hQ:(fun r:Ex×St=>r.1.stop=true∧_)=Q
  simp -implicitDefEqProofs only[SX,sevalprocAttr,Ac,g1,g10,lU,e1]
  subst hQ
  refine⟨rfl,_,acc,evs,st,n1,n5,rfl,by simp[Tr.aa,g0],by simp[Tr.aa,g1],by simp[Tr.aa,g8],by simp[Tr.aa,g9],?_,k5,k6,k7⟩
  rw[k4,List.drop_length,Xi]
  cases st <;> rfl
theorem AE (hS:Za S ss es) (Ba:Fc ss) (hA:He A) (hc:c < A.length) (hR:R= .fa∧rb=[]∨R= .lit 1 (rb.map u8)) (hrb:rb.length≤8) (hn:un=3→rb=[])
 {U:PV} {us:List Int} (hU:Vh 1 U (us.map i64)) (ht0:0≤tot) (ht1:tot+us.length≤65536) (ho0:0≤out) (ho1:out≤524288) (hb:A[c]? =some (bc S R un tot out false false)):
 Pd (fun r=>∃ acc evs st n1 n5,r=(.ic [.uq A.length n1 1 (acc.map u8),.uq (A.length+1) n5 5 evs,.pv (i64 0)],Ak A c (bc S R un (tot+us.length) (out+acc.length) st false) acc.length n1 evs.length n5)∧
  Xi (fun u=>Tv u ss) un rb tot out 0 [] [] us=(acc,evs,st)∧(n1=true→acc=[])∧(n5=true→evs=[])∧acc.length≤8 * us.length) (xe call Bc [.ptr c 0,.pv U] A):=by
 have lU:∀ H,Tb H 0 (.pv U)=some us.length:=fun H=>by rw[hU.len H,List.length_map]
 have hA2:A++[.tok 1 0 true]++[.tok 5 0 true]=Ak A c (bc S R un tot out false false) 0 true 0 true:=by
  have:A.set c (bc S R un tot out false false)=A:=by
   obtain⟨hl,hg⟩:=List.getElem?_eq_some_iff.1 hb
   rw[← hg];exact List.set_getElem_self hl
  unfold Ak
  rw[this,List.append_assoc];rfl
 have hf:=xB false false tot us.length ht0 (by omega)
 rw[if_neg (by simp),if_neg (by simp),if_neg (by omega)] at hf
 have hb0:=(Zy.of hb).get
 have hb1:=fun tot out st k1 n1 k5 n5=>(Zy.of (Sq hc (bc S R un tot out st false) k1 n1 k5 n5)).get
 have hB:∀ tot out st,bc S R un tot out st false= .box [.pv S,.pv (i64 un),.pv R,.pv (i64 tot),.pv (i64 out),.pv (.bool st),.pv (.bool false)]:=fun _ _ _=>rfl
 have s3:∀ st k1 n1 k5 n5 v,Ea (Ak A c (bc S R un tot out st false) k1 n1 k5 n5) 1 (.ptr c 3) (.pv (.int .i64 v))=some (Ak A c (bc S R un v out st false) k1 n1 k5 n5):=fun st k1 n1 k5 n5 v=>by
  rw[← Zt hc (bc S R un tot out st false) (bc S R un v out st false) k1 n1 k5 n5]
  simp only[Ea,Sq hc,hB];rfl
 have s4:∀ tot st k1 n1 k5 n5 v,Ea (Ak A c (bc S R un tot out st false) k1 n1 k5 n5) 1 (.ptr c 4) (.pv (.int .i64 v))=some (Ak A c (bc S R un tot v st false) k1 n1 k5 n5):=fun tot st k1 n1 k5 n5 v=>by
  rw[← Zt hc (bc S R un tot out st false) (bc S R un tot v st false) k1 n1 k5 n5]
  simp only[Ea,Sq hc,hB];rfl
 have w1:IntKind.i64.wrap (tot+(us.length:Int))=tot+us.length:=Aa (by omega)
 have z0:((0:Int) != 0)=false:=rfl
 have hz1:(0 < 1)=True:=by simp
 have hz5:(0 < 5)=True:=by simp
 have hlen1:(A++[ba.tok 1 0 true]).length=A.length+1:=by simp
 generalize hQ:(fun r:AV×List ba=>∃ acc evs st n1 n5,r=_∧_)=Q
 simp -implicitDefEqProofs only[SX,sevalprocAttr,Bc,hb0,lU,hf,z0,PC,ff,hz1,hz5,hlen1,hA2]
 refine ya (zM (call:=call) hS Ba hA hc hR hrb hn hU ht0 ht1 ho0 ho1 (by simp[Tr.aa]) (by simp[Tr.aa]) (by simp[Tr.aa]) (by simp[Tr.aa]) (by simp[Tr.aa])) ?_
 rintro r ⟨_,E,acc,evs,st,n1,n5,rfl,g0,g1,g8,g9,k4,k5,k6,k7⟩
 have w2:IntKind.i64.wrap (out+(acc.length:Int))=out+acc.length:=Aa (by omega)
 have lu:∀ H,Tb H 0 (.uq A.length n1 1 (acc.map u8))=some acc.length:=fun H=>by simp[Tb]
 simp -implicitDefEqProofs only[SX,sevalprocAttr,g0,g1,g8,g9,lU,hb1,w1,w2,lu,s3,s4]
 subst hQ
 exact⟨acc,evs,st,n1,n5,rfl,k4,k5,k6,k7⟩
theorem qE {st fin:Bool} (hb:A[c]? =some (bc S R un tot out st fin)) {U:PV} {us:List Int} (hU:Vh 1 U (us.map i64)) (ht0:0≤tot) (ht1:tot≤65536)
 {e:Int} (he:e=if fin then 181 else if st then 182 else if (us.length:Int) > 65536 - tot then 183 else 0) (h0:e≠0):
 xe call Bc [.ptr c 0,.pv U] A=some (.pv (.ic [.fa,.fa,i64 e]),A):=by
 have lU:∀ H,Tb H 0 (.pv U)=some us.length:=fun H=>by rw[hU.len H,List.length_map]
 have hf:=xB fin st tot us.length ht0 ht1
 rw[← he] at hf
 have hb0:=(Zy.of hb).get
 have d1:(e != 0)=true:=by simp[h0]
 have hm:∀ a b c:PV,Ut [.pv a,.pv b,.pv c]= .pv (.ic [a,b,c]):=fun _ _ _=>rfl
 simp -implicitDefEqProofs only[SX,sevalprocAttr,Bc,hb0,lU,hf,d1,hm]
theorem UG {st fin:Bool} (hb:A[c]? =some (bc S R un tot out st fin)):xe call fe [.ptr c 0] A=some (.pv (i64 (if fin then 181 else 0)),A.set c (bc S R un tot out st true))∧xe call Pc [.ptr c 0] A=some (.pv (i64 (if fin then 181 else 0)),A.set c (bc S R un tot out st true)):=by
 have hb0:=(Zy.of hb).get
 have hn:=(Zy.of hb).nn
 have hB:∀ fin,bc S R un tot out st fin= .box [.pv S,.pv (i64 un),.pv R,.pv (i64 tot),.pv (i64 out),.pv (.bool st),.pv (.bool fin)]:=fun _=>rfl
 have s6:Ea A 1 (.ptr c 6) (.pv (.bool true))=some (A.set c (bc S R un tot out st true)):=by
  simp only[Ea,hb,hB];rfl
 cases fin with
 |true=>
  have:A.set c (bc S R un tot out st true)=A:=by
   obtain⟨hl,hg⟩:=List.getElem?_eq_some_iff.1 hb
   rw[← hg];exact List.set_getElem_self hl
  rw[this]
  constructor
  ·simp -implicitDefEqProofs only[SX,sevalprocAttr,fe,hb0,hn,if_true]
  ·simp -implicitDefEqProofs only[SX,sevalprocAttr,Pc,hb0,hn,if_true]
 |false=>
  constructor
  ·simp -implicitDefEqProofs only[SX,sevalprocAttr,fe,hb0,hn,s6,Bool.false_eq_true,if_false]
  ·simp -implicitDefEqProofs only[SX,sevalprocAttr,Pc,hb0,hn,s6,Bool.false_eq_true,if_false]
theorem UF (hS:Za S ss es) (Ba:Fc ss) {repl:Int}:
 (vC (fun u=>Tv u ss) un repl≠0→∃ X,xe call Kc [.pv (.agg [S]),.pv (i64 un),.pv (i64 repl)] A=some (.pv (.ic [.Ye,i64 (vC (fun u=>Tv u ss) un repl)]),A++X))∧
 (vC (fun u=>Tv u ss) un repl=0→∃ R rb,xe call Kc [.pv (.agg [S]),.pv (i64 un),.pv (i64 repl)] A=some (.ic [.ptr A.length 0,.pv (i64 0)],A++[bc S R un 0 0 false false])∧rb=eE (fun u=>Tv u ss) un repl∧(R= .fa∧rb=[]∨R= .lit 1 (rb.map u8))∧rb.length≤8∧(un=3→rb=[])):=by
 have hS1:(AV.pv S).one=true:=by rcases hS.is with⟨h,_⟩ | h <;> rw[h] <;> rfl
 have hm:∀ a b:PV,Ut [.pv a,.pv b]= .pv (.ic [a,b]):=fun _ _=>rfl
 have hm2:Ut [.ptr A.length 0,.pv (i64 0)]= .ic [.ptr A.length 0,.pv (i64 0)]:=rfl
 have hof:=fE hS Ba repl
 have hl8:∀ b,Tv repl ss=some b→b.length≤8:=fun b h=>by
  obtain⟨s,hs,h1,h2,rfl,_⟩:=Uy Ba.gu h
  have hk:=Ba.gu s hs
  have:=(Wl s.parts (repl - s.first) 0 hk.parts (by omega) (by omega)).2.1
  have:=hk.hi
  omega
 have g1:(A++[ba.box [.pv S,.pv (i64 un),.pv .fa,.pv (i64 0),.pv (i64 0),.pv (.bool false),.pv (.bool false)]])[A.length]? =some (.box [.pv S,.pv (i64 un),.pv .fa,.pv (i64 0),.pv (i64 0),.pv (.bool false),.pv (.bool false)]):=by simp
 have p1:=fun d=>gd g1 d 0
 have s1:∀ b:List Int,Ea (A++[ba.box [.pv S,.pv (i64 un),.pv .fa,.pv (i64 0),.pv (i64 0),.pv (.bool false),.pv (.bool false)]]) 1 (.ptr A.length 2) (.pv (.lit 1 (b.map u8)))=some (A++[bc S (.lit 1 (b.map u8)) un 0 0 false false]):=fun b=>by
  simp only[Ea,g1]
  rw[if_pos ⟨rfl,rfl⟩,if_pos (by simp)]
  simp[Ln,AV.cells,PV.cells,ga]
 unfold vC eE
 by_cases h1:un < 1∨un > 3
 ·rw[if_pos h1]
  refine⟨fun _=>⟨[],?_⟩,fun h=>by omega⟩
  by_cases h2:un < 1
  ·have d1:decide (un < 1)=true:=decide_eq_true h2
   simp -implicitDefEqProofs only[SX,sevalprocAttr,Kc,hS1,d1,hm,List.append_nil]
  ·have d1:decide (un < 1)=false:=decide_eq_false h2
   have d2:decide (un > 3)=true:=decide_eq_true (by omega)
   simp -implicitDefEqProofs only[SX,sevalprocAttr,Kc,hS1,d1,d2,hm,List.append_nil]
 ·rw[if_neg h1]
  have d1:decide (un < 1)=false:=decide_eq_false (by omega)
  have d2:decide (un > 3)=false:=decide_eq_false (by omega)
  by_cases h2:un=2
  ·have d3:(un==2)=true:=by rw[h2];rfl
   cases hc:Tv repl ss with
   |none=>
    rw[hc] at hof
    rw[if_pos ⟨h2,hc⟩]
    refine⟨fun _=>⟨[bc S .fa un 0 0 false false],?_⟩,fun h=>by omega⟩
    simp -implicitDefEqProofs only[SX,sevalprocAttr,Kc,hS1,Od,d1,d2,d3,hof,hm,ga.eq_1,ga.eq_2,List.set,Dd,Ln]
   |some b=>
    rw[hc] at hof
    rw[if_neg (fun h:un=2∧Tv repl ss=none=>by rw[hc] at h;cases h.2),if_pos h2]
    refine⟨fun h=>absurd rfl h,fun _=>⟨.lit 1 (b.map u8),b,?_,(show b=(Tv repl ss).getD [] by rw[hc];rfl),.inr rfl,hl8 b hc,fun h=>by omega⟩⟩
    simp -implicitDefEqProofs only[SX,sevalprocAttr,Kc,hS1,Od,d1,d2,d3,hof,hm2,ga.eq_1,ga.eq_2,List.set,Dd,p1,s1]
  ·have d3:(un==2)=false:=beq_false_of_ne h2
   rw[if_neg (fun h=>h2 h.1),if_neg h2]
   refine⟨fun h=>absurd rfl h,fun _=>⟨.fa,[],?_,rfl,.inl ⟨rfl,rfl⟩,by simp,fun _=>rfl⟩⟩
   simp -implicitDefEqProofs only[SX,sevalprocAttr,Kc,hS1,Od,d1,d2,d3,hm2,ga.eq_1,ga.eq_2,List.set,Dd,Ln]
end
end Go.AM.B1
namespace Go.AM.B1
open Go.AM Go.AM.So
theorem aE {p q:qc} (op:Ie p) (oq:Ie q) (hle:p.parts.length≤q.parts.length):cf p q=true↔∀ k (h1:k < p.parts.length) (h2:k < q.parts.length),∃ x,x < 256∧Fh p.parts[k] x=true∧Fh q.parts[k] x=true:=by
 have key:∀ (m i:Nat),i+m=p.parts.length→((fc p.parts q.parts m i).isSome=true↔∀ k,i≤k→(h1:k < p.parts.length)→(h2:k < q.parts.length)→∃ x,x < 256∧Fh p.parts[k] x=true∧Fh q.parts[k] x=true):=by
  intro m
  induction m with
  |zero=>intro i hi;exact⟨fun _ k hk h1=>by omega,fun _=>rfl⟩
  |succ m ih=>
   intro i hi
   have h1:i < p.parts.length:=by omega
   have h2:i < q.parts.length:=by omega
   have hm:=ry h1 h2 (op.parts _ (List.getElem_mem h1)).2 (oq.parts _ (List.getElem_mem h2)).2
   have hI:=ih (i+1) (by omega)
   rw[fc]
   cases hmt:Vo p.parts q.parts i with
   |nil=>
    constructor
    ·intro h;cases h
    ·intro h;exact absurd hmt (hm.2 (h i (Nat.le_refl _) h1 h2))
   |cons a r=>
    simp only[Option.isSome_map]
    rw[hI]
    constructor
    ·intro h k hk g1 g2
     rcases Nat.lt_or_ge i k with h3 | h3
     ·exact h k h3 g1 g2
     ·have:k=i:=by omega
      subst this
      exact hm.1 (by rw[hmt];simp)
    ·intro h k hk;exact h k (by omega)
 have:=key p.parts.length 0 (by omega)
 unfold cf
 rw[this]
 exact⟨fun h k h1 h2=>h k (by omega) h1 h2,fun h k _ h1 h2=>h k h1 h2⟩
theorem OE {p q:qc} (op:Ie p) (oq:Ie q) (h:p.parts.length=q.parts.length):cf p q=cf q p:=by
 rw[Bool.eq_iff_iff,aE op oq (by omega),aE oq op (by omega)]
 constructor
 ·intro k i h1 h2;obtain⟨x,a,b,c⟩:=k i h2 h1;exact⟨x,a,c,b⟩
 ·intro k i h1 h2;obtain⟨x,a,b,c⟩:=k i h2 h1;exact⟨x,a,c,b⟩
def ND (ss:List qc) (i j:Nat):Prop:=(hi:i < ss.length)→(hj:j < ss.length)→j < i→ss[i].parts.length=ss[j].parts.length→cf ss[i] ss[j]=false
theorem jG {ss:List qc} (Ba:Fc ss):Xm ss↔∀ i j,ND ss i j:=by
 constructor
 ·intro h i j hi hj hlt he
  rw[OE (Ba.gu _ (List.getElem_mem hi)) (Ba.gu _ (List.getElem_mem hj)) he]
  exact h j i hj hi hlt he.symm
 ·intro h i j hi hj hlt he
  rw[OE (Ba.gu _ (List.getElem_mem hi)) (Ba.gu _ (List.getElem_mem hj)) he]
  exact h j i hj hi hlt he.symm
section
variable {S:PV} {ss:List qc} {es:List PV} (hS:Za S ss es) (Ba:Fc ss)
include hS Ba
theorem XH (call:Ta) {i:Nat} (hi:i < ss.length) {E:Tr} (h1:E.get 1= .pv (.rp [S] 0)) (h4:E.get 4= .pv (i64 i)) (h5:E.get 5= .pv (i64 0)):
 Pd (fun r=>r.1.stop=true∧((∃ E',r=(.exit 2,⟨E',[]⟩)∧ee [1,4] E E'∧∀ j,ND ss i j)∨∃ E',r=(.ret,⟨E',[]⟩)∧E'.get 2= .pv (.bool false)∧E'.get 3= .pv (i64 0)∧¬Xm ss))
  (qa call (.loop [1,4,5] Jd) ⟨E,[]⟩):=by
 have h32:=Ba.len
 have ln:=hS.Tb
 obtain⟨P,ps,hP,a1⟩:=hS.Sd hi
 have okp:=Ba.gu _ (List.getElem_mem hi)
 have lP:=hP.parts.Tb
 refine yp (fun j t=>ee [1,4] E t.env∧t.env.get 5= .pv (i64 j)∧t.H=[]∧∀ j',j' < j→ND ss i j') i (by unfold pa;omega)
  (ah.all rfl (by simp) (Fit.cons h1 Qa (.cons h4 Qa (.cons h5 Qa (.nil _ _)))) fun E' hE=>⟨ee.sub hE rfl,by rw[hE 5 (by simp),h5];rfl,rfl,fun j h=>by omega⟩) ?_ ?_
 ·rintro j ⟨E1,H1⟩ hj ⟨k1,k5,k3,hs⟩
  simp only at k1 k5 k3
  subst k3
  have hjl:j < ss.length:=by omega
  have g1:=(k1 1 (by simp)).trans h1
  have g4:=(k1 4 (by simp)).trans h4
  obtain⟨Q,qs,hQ,a2⟩:=hS.Sd hjl
  have okq:=Ba.gu _ (List.getElem_mem hjl)
  have hcm:=fun (h:ss[i].parts.length≤ss[j].parts.length)=>sw hP hQ okp okq (n:=ss[i].parts.length) (Nat.le_refl _) h
  have lQ:=hQ.parts.Tb
  have hat:∀ b,(ss[i].parts.length=ss[j].parts.length→cf ss[i] ss[j]=b)→b=false→∀ j',j' < j+1→ND ss i j':=by
   intro b hb hb0 j' hj'
   rcases Nat.lt_or_ge j' j with h3 | h3
   ·exact hs j' h3
   ·have:j'=j:=by omega
    subst this
    intro _ _ _ he
    rw[hb he,hb0]
  have hbad:ss[i].parts.length=ss[j].parts.length→cf ss[i] ss[j]=true→¬Xm ss:=fun he hm h=>by
   have:=(jG Ba).1 h i j hi hjl hj he
   rw[hm] at this;cases this
  unfold cf at hat hbad
  generalize ss[i]=p at *
  generalize ss[j]=q at *
  have e1:decide ((j:Int) < (i:Int))=true:=Fa (by omega)
  have t2:IntKind.i64.wrap ((j:Int)+1)=((j+1:Nat):Int):=fj (by omega)
  have fin:(∀ j',j' < j+1→ND ss i j')→∀ E2:Tr,ee [1,4] E E2→E2.get 5= .pv (i64 (j+1:Nat))→ah ([]:List ba).length [1,4,5] (fun t=>ee [1,4] E t.env∧t.env.get 5= .pv (i64 (j+1:Nat))∧t.H=[]∧∀ j',j' < j+1→ND ss i j') ⟨E2,[]⟩:=fun hn E2 kk z5=>
   ah.all rfl (by simp) (Fit.sub (.cons z5 Qa (Fit.ue (l:=[1,4]) (.cons h1 Qa (.cons h4 Qa (.nil _ _))) kk)) rfl) fun E' hE=>⟨kk.trans (ee.sub hE rfl),by rw[hE 5 (by simp),z5],rfl,hn⟩
  generalize hQQ:RQ _ _ _ _=QQ
  by_cases c1:p.parts.length=q.parts.length
  ·have d1:((p.parts.length:Int)==(q.parts.length:Int))=true:=by rw[c1];simp
   obtain⟨v,hv⟩:=hcm (by omega)
   cases hb:(fc p.parts q.parts p.parts.length 0).isSome with
   |true=>
    rw[hb] at hv
    simp -implicitDefEqProofs only[SX,sevalprocAttr,Jd,g1,g4,k5,e1,Kb,Sa,Pb,wc,Uc,a1,a2,lP,lQ,d1,hv]
    subst hQQ
    exact .inr ⟨_,rfl,by simp[Tr.aa],by simp[Tr.aa],hbad c1 hb⟩
   |false=>
    rw[hb] at hv
    simp -implicitDefEqProofs only[SX,sevalprocAttr,Jd,g1,g4,k5,e1,t2,Kb,Sa,Pb,wc,Uc,a1,a2,lP,lQ,d1,hv]
    subst hQQ
    rw[ml]
    generalize hEE:(Tr.set _ 5 _:Tr)=E2
    refine fin (hat false (fun _=>hb) rfl) E2 (by rw[← hEE];(repeat refine ee.set ?_ rfl);exact k1) (by rw[← hEE];simp[Tr.aa])
  ·have d1:((p.parts.length:Int)==(q.parts.length:Int))=false:=beq_false_of_ne (by omega)
   simp -implicitDefEqProofs only[SX,sevalprocAttr,Jd,g1,g4,k5,e1,t2,Kb,Sa,Pb,wc,Uc,a1,a2,lP,lQ,d1]
   subst hQQ
   rw[ml]
   generalize hEE:(Tr.set _ 5 _:Tr)=E2
   refine fin (hat false (fun h=>absurd h c1) rfl) E2 (by rw[← hEE];(repeat refine ee.set ?_ rfl);exact k1) (by rw[← hEE];simp[Tr.aa])
 ·rintro⟨E1,H1⟩ ⟨k1,k5,k3,hs⟩
  simp only at k1 k5 k3
  subst k3
  have g4:=(k1 4 (by simp)).trans h4
  have e1:decide ((i:Int) < (i:Int))=false:=Ha (by omega)
  generalize hQ:(fun r:Ex×St=>r.1.stop=true∧_)=QQ
  simp -implicitDefEqProofs only[SX,sevalprocAttr,Jd,g4,k5,e1]
  subst hQ
  refine⟨rfl,.inl ⟨_,rfl,?_,fun j a b c=>hs j c a b c⟩⟩
  repeat refine ee.set ?_ rfl
  exact k1
theorem Iy:∃ b,Ke [.agg [S]]=some (.ic [.bool b,i64 0])∧(b=true↔Xm ss):=by
 have ln:=hS.Tb
 have hS1:(AV.pv S).one=true:=by rcases hS.is with⟨h,_⟩ | h <;> rw[h] <;> rfl
 obtain⟨b,hb,hbb⟩:=mw hS
 have:=hbb.2 Ba
 subst this
 have h32:=Ba.len
 have hloop:=fun (E:Tr) (h1:E.get 1= .pv (.rp [S] 0)) (h4:E.get 4= .pv (i64 0))=>
  yp (call:=Ca (fun _=>none) 8) (b:=cg) (live:=[1,4]) (s:=⟨E,[]⟩) (Q:=fun r=>(∃ E',r=(.exit 0,⟨E',[]⟩)∧Xm ss)∨∃ E',r=(.ret,⟨E',[]⟩)∧E'.get 2= .pv (.bool false)∧E'.get 3= .pv (i64 0)∧¬Xm ss)
   (fun i t=>ee [1] E t.env∧t.env.get 4= .pv (i64 i)∧t.H=[]∧∀ i',i' < i→∀ j,ND ss i' j) ss.length (by unfold pa;omega)
   (ah.all rfl (by simp) (Fit.cons h1 Qa (.cons h4 Qa (.nil _ _))) fun E' hE=>⟨ee.sub hE rfl,by rw[hE 4 (by simp),h4];rfl,rfl,fun i h=>by omega⟩)
   (by
    rintro i ⟨E1,H1⟩ hi ⟨k1,k4,k3,hs⟩
    simp only at k1 k4 k3
    subst k3
    have g1:=(k1 1 (by simp)).trans h1
    have e1:decide ((i:Int) < (ss.length:Int))=true:=Fa (by omega)
    have t2:=eb hi (by unfold maxLen;omega)
    generalize hQQ:RQ _ _ _ _=QQ
    simp -implicitDefEqProofs only[SX,sevalprocAttr,cg,g1,k4,ln,e1,Kb,Sa]
    generalize hEE:(Tr.set _ 5 _:Tr)=E2
    have z1:E2.get 1= .pv (.rp [S] 0):=by rw[← hEE];simp[Tr.aa,g1]
    have z4:E2.get 4= .pv (i64 i):=by rw[← hEE];simp[Tr.aa,k4]
    refine ya (XH hS Ba _ hi z1 z4 (by rw[← hEE];simp[Tr.aa])) ?_
    rintro _ ⟨_,⟨E3,rfl,k6,hp⟩ | ⟨E3,rfl,g2,g3,hp⟩⟩
    ·have y4:=(k6 4 (by simp)).trans z4
     simp -implicitDefEqProofs only[SX,sevalprocAttr,y4,t2]
     subst hQQ
     rw[ml]
     generalize hE4:(Tr.set _ 4 _:Tr)=E4
     have y1:E4.get 1= .pv (.rp [S] 0):=by rw[← hE4];simp[Tr.aa];exact (k6 1 (by simp)).trans z1
     have y4:E4.get 4= .pv (i64 (i+1:Nat)):=by rw[← hE4];simp[Tr.aa]
     exact ah.all rfl (by simp) (Fit.cons y1 Qa (.cons y4 Qa (.nil _ _))) fun E' hE=>⟨fun t ht=>by
      rw[List.mem_singleton] at ht;subst ht
      rw[hE 1 (by simp),y1,h1],by rw[hE 4 (by simp),y4],rfl,fun i' hi' j=>by
      rcases Nat.lt_or_ge i' i with h3 | h3
      ·exact hs i' h3 j
      ·have:i'=i:=by omega
       subst this;exact hp j⟩
    ·simp -implicitDefEqProofs only[SX,sevalprocAttr]
     subst hQQ
     exact .inr ⟨_,rfl,g2,g3,hp⟩)
   (by
    rintro⟨E1,H1⟩ ⟨k1,k4,k3,hs⟩
    simp only at k1 k4 k3
    subst k3
    have g1:=(k1 1 (by simp)).trans h1
    have e1:decide ((ss.length:Int) < (ss.length:Int))=false:=Ha (by omega)
    generalize hQ:(fun r:Ex×St=>r.1.stop=true∧_)=QQ
    simp -implicitDefEqProofs only[SX,sevalprocAttr,cg,g1,k4,ln,e1,Kb,Sa]
    subst hQ
    exact⟨rfl,.inl ⟨_,rfl,(jG Ba).2 fun i j hi hj=>hs i hi j hi hj⟩⟩)
 have key:Pd (fun r=>∃ b,r=PV.ic [.bool b,i64 0]∧(b=true↔Xm ss)) (Ke [.agg [S]]):=by
  generalize hQQ:(fun r:PV=>_)=QQ
  simp -implicitDefEqProofs only[Ke,SX,sevalprocAttr,sj,hS1,Kb,Sa,Od,hb]
  generalize hEE:(Tr.set _ 4 _:Tr)=E
  refine ya (hloop E (by rw[← hEE];simp[Tr.aa]) (by rw[← hEE];simp[Tr.aa])) ?_
  rintro _ ⟨_,⟨E',rfl,hp⟩ | ⟨E',rfl,g2,g3,hp⟩⟩
  ·simp -implicitDefEqProofs only[SX,sevalprocAttr]
   subst hQQ
   exact⟨true,rfl,by simpa using hp⟩
  ·simp -implicitDefEqProofs only[SX,sevalprocAttr,g2,g3]
   subst hQQ
   exact⟨false,rfl,by simpa using hp⟩
 obtain⟨r,h1,b,rfl,hb⟩:=pc key
 exact⟨b,h1,hb⟩
end
theorem XG {S V:PV} {ss:List qc} {es:List PV} (hS:Za S ss es) {m:Int} (hV:(AV.pv V).one=true) (hm:m=84∨m=110) (hb:Xa [.agg [S]]=some (.ic [.agg [V],i64 m])):zd [.agg [S]]=some (.ic [.agg [.fa],i64 m]):=by
 have hS1:(AV.pv S).one=true:=by rcases hS.is with⟨h,_⟩ | h <;> rw[h] <;> rfl
 have s1:Ea [.box [.pv .fa],.box [.pv .fa]] 1 (.ptr 1 0) (.pv (.agg [V]))=some [.box [.pv .fa],.box [.pv V]]:=by simp[Ea,AV.cells,PV.cells,hV,ga]
 have s0:Ea [.box [.pv .fa],.box [.pv V]] 1 (.ptr 0 0) (.pv (.agg [.fa]))=some [.box [.pv .fa],.box [.pv V]]:=rfl
 have ld:ta [.box [.pv .fa],.box [.pv V]] true 1 (.ptr 0 0)=some (.pv (.agg [.fa])):=rfl
 have z1:((84:Int)==84)=true:=rfl
 have z2:((110:Int)==84)=false:=rfl
 have z3:((110:Int)==110)=true:=rfl
 rcases hm with rfl | rfl <;>
 simp -implicitDefEqProofs only[zd,SX,sevalprocAttr,Tg,hS1,Od,hb,s1,s0,ld,z1,z2,z3]
theorem Xw {S V:PV} {ss:List qc} {es:List PV} (hS:Za S ss es) {m:Int} {b:Bool} (hV:(AV.pv V).one=true) (h1:m≠84) (h2:m≠110) (hb:Xa [.agg [S]]=some (.ic [.agg [V],i64 m])) (hi:Ke [.agg [S]]=some (.ic [.bool b,i64 0])):
 zd [.agg [S]]=some (.ic [.agg [if b then V else .fa],i64 (if b then m else 111)]):=by
 have hS1:(AV.pv S).one=true:=by rcases hS.is with⟨h,_⟩ | h <;> rw[h] <;> rfl
 have s1:Ea [.box [.pv .fa],.box [.pv .fa]] 1 (.ptr 1 0) (.pv (.agg [V]))=some [.box [.pv .fa],.box [.pv V]]:=by simp[Ea,AV.cells,PV.cells,hV,ga]
 have s0:Ea [.box [.pv .fa],.box [.pv V]] 1 (.ptr 0 0) (.pv (.agg [.fa]))=some [.box [.pv .fa],.box [.pv V]]:=rfl
 have s2:Ea [.box [.pv .fa],.box [.pv V]] 1 (.ptr 0 0) (.pv (.agg [V]))=some [.box [.pv V],.box [.pv V]]:=by simp[Ea,AV.cells,PV.cells,hV,ga]
 have ld:∀ W:PV,ta [.box [.pv W],.box [.pv V]] true 1 (.ptr 0 0)=some (.pv (.agg [W])):=fun W=>rfl
 have ld1:ta [.box [.pv .fa],.box [.pv V]] true 1 (.ptr 1 0)=some (.pv (.agg [V])):=rfl
 have z1:(m==84)=false:=beq_false_of_ne h1
 have z2:(m==110)=false:=beq_false_of_ne h2
 cases b <;>
 simp -implicitDefEqProofs only[zd,SX,sevalprocAttr,Tg,hS1,Od,hb,hi,s1,s0,s2,ld,ld1,z1,z2]
theorem LH (ss:List qc):∃ n V,(∀ (S:PV) (es:List PV),Za S ss es→zd [.agg [S]]=some (.ic [.agg [V],i64 n]))∧(n=0→∃ l,oh ss=some l∧V=El l)∧(AV.pv V).one=true∧
 (∀ (S:PV) (es:List PV),Za S ss es→∃ T,Eb [.agg [S]]=some (.ic [T,i64 n])∧((n≠0∧T= .Ye)∨(n=0∧Fc ss∧bh ss∧Xm ss∧∃ l,oh ss=some l∧uv T ss l∧∀ e∈l,Rn e))):=by
 obtain⟨VB,lB,m,hVB,_,_,hb1,hb2⟩:=MM ss
 have hval:∀ (S:PV) (es:List PV) (V':PV) (m':Int),Za S ss es→Ic [.agg [S]]=some (.ic [.agg [V'],i64 m'])→Xa [.agg [S]]=some (.ic [.agg [V'],i64 m']):=by
  intro S es V' m' hS h
  rw[hb2 S es hS,←hb1 S es hS,h]
 have Xe:∀ n:Int,(∀ (S:PV) (es:List PV),Za S ss es→∀ T k,Eb [.agg [S]]=some (.ic [T,i64 k])→k=n)→∀ (S:PV) (es:List PV),Za S ss es→∃ T,Eb [.agg [S]]=some (.ic [T,i64 n])∧((n≠0∧T= .Ye)∨(n=0∧Fc ss∧bh ss∧Xm ss∧∃ l,oh ss=some l∧uv T ss l∧∀ e∈l,Rn e)):=by
  intro n hn S es hS
  obtain⟨T,k,h1,h2⟩:=GO hS
  obtain rfl:=hn S es hS T k h1
  exact⟨T,h1,h2⟩
 have same:∀ {S:PV} {T T':PV} {k k':Int},Eb [.agg [S]]=some (.ic [T,i64 k])→Eb [.agg [S]]=some (.ic [T',i64 k'])→k=k':=by
  intro S T T' k k' h1 h2
  rw[h1] at h2
  injection h2 with h2
  injection h2 with h2
  injection h2 with _ h2
  injection h2 with h2 _
  injection h2
 have aut:oh ss=none∨∃ l,oh ss=some l:=by
  cases oh ss with
  |none=>exact .inl rfl
  |some l=>exact .inr ⟨l,rfl⟩
 have one:∀ {l:List (List Af)},(AV.pv (El l)).one=true:=fun {l}=>rfl
 by_cases h1:Fc ss
 ·by_cases h2:bh ss
  ·by_cases h3:Xm ss
   ·rcases aut with h4 | ⟨l,h4⟩
    ·skip
     refine⟨130,.fa,fun S es hS=> ?_,fun h=>(by cases h),rfl,Xe 130 fun S es hS T k hk=> ?_⟩
     ·obtain⟨b,i1,i2⟩:=Iy hS h1
      have:=i2.2 h3
      subst this
      exact Xw hS rfl (by decide) (by decide) (hval S es _ _ hS ((Ei hS).2.2.1 h1 h2 h4)) i1
     ·obtain⟨T',n,t1,_,_,_,_,t2,_⟩:=Pp hS
      have:=t2 h1 h2 h3 h4
      subst this
      exact same hk t1
    ·skip
     refine⟨0,El l,fun S es hS=> ?_,fun _=>⟨l,h4,rfl⟩,one,Xe 0 fun S es hS T k hk=> ?_⟩
     ·obtain⟨b,i1,i2⟩:=Iy hS h1
      have:=i2.2 h3
      subst this
      exact Xw hS one (by decide) (by decide) (hval S es _ _ hS ((Ei hS).2.2.2 h1 h2 l h4)) i1
     ·obtain⟨T',n,t1,_,_,_,_,_,t2⟩:=Pp hS
      have:=(t2 l h1 h2 h3 h4).1
      subst this
      exact same hk t1
   ·refine⟨111,.fa,fun S es hS=> ?_,fun h=>(by cases h),rfl,Xe 111 fun S es hS T k hk=> ?_⟩
    ·obtain⟨b,i1,i2⟩:=Iy hS h1
     have hb:b=false:=by cases b with | false=>rfl | true=>exact absurd (i2.1 rfl) h3
     subst hb
     cases h4:oh ss with
     |none=>exact Xw hS (V:= .fa) rfl (by decide) (by decide) (hval S es _ _ hS ((Ei hS).2.2.1 h1 h2 h4)) i1
     |some l=>exact Xw hS one (by decide) (by decide) (hval S es _ _ hS ((Ei hS).2.2.2 h1 h2 l h4)) i1
    ·obtain⟨T',n,t1,_,_,_,t2,_⟩:=Pp hS
     have:=t2 h1 h2 h3
     subst this
     exact same hk t1
  ·refine⟨110,.fa,fun S es hS=>XG hS (V:= .fa) rfl (.inr rfl) (hval S es _ _ hS ((Ei hS).2.1 h1 h2)),fun h=>(by cases h),rfl,Xe 110 fun S es hS T k hk=> ?_⟩
   obtain⟨T',n,t1,_,_,t2,_⟩:=Pp hS
   have:=t2 h1 h2
   subst this
   exact same hk t1
 ·refine⟨84,.fa,fun S es hS=>XG hS (V:= .fa) rfl (.inl rfl) (hval S es _ _ hS ((Ei hS).1 h1)),fun h=>(by cases h),rfl,Xe 84 fun S es hS T k hk=> ?_⟩
  obtain⟨T',n,t1,_,t2,_⟩:=Pp hS
  have:=t2 h1
  subst this
  exact same hk t1
end Go.AM.B1
namespace Go.AM.B1
open Go.AM Go.AM.So
theorem pM {S:PV} {ss:List qc} {es:List PV} (hS:Za S ss es) (hz:MD ss):∃ T,Jg [.agg [S]]=some (.ic [T,.bool true])∧
 (T= .Ye∨(Fc ss∧bh ss∧Xm ss∧∃ l,oh ss=some l∧uv T ss l∧∀ e∈l,Rn e)):=by
 obtain⟨n,V,hr,_,hV1,ht⟩:=LH ss
 have hr:=hr S es hS
 obtain⟨T,ht,ho⟩:=ht (AY ss) (Uo ss) (tL hS)
 have hcp:=JO hS hz
 have hS1:(AV.pv S).one=true:=by rcases hS.is with⟨h,_⟩ | h <;> rw[h] <;> rfl
 have s1:Ea [.box [.pv .fa]] 1 (.ptr 0 0) (.pv (.agg [V]))=some [.box [.pv V]]:=by simp[Ea,AV.cells,PV.cells,hV1,ga]
 have d1:(n==n)=true:=by simp
 refine⟨T,?_,ho.imp (fun h=>h.2) (fun h=>h.2)⟩
 rcases ho with⟨h0,rfl⟩ | ⟨rfl,_,_,_,l,_,hT,_⟩
 ·have d2:(n != 0)=true:=by simp[h0]
  have e1:∀ H,Jr H 1 (.pv .Ye) (.pv .Ye)=some true:=fun H=>rfl
  have e2:∀ H,Jr H 0 (.pv (.bool true)) (.pv (.bool true))=some true:=fun H=>rfl
  simp -implicitDefEqProofs only[Jg,SX,sevalprocAttr,vi,hS1,Od,hcp,ht,hr,s1,d1,d2,e1,e2]
 ·have d2:((0:Int) != 0)=false:=rfl
  have d1:((0:Int)==0)=true:=rfl
  obtain⟨R,rfl⟩:∃ R,T= .rp R 0:=by
   obtain⟨S',NX,DG,RW,h,_⟩:=hT.ex
   exact⟨_,h⟩
  have e1:∀ H,Jr H 1 (.pv (.rp R 0)) (.pv .Ye)=some false:=fun H=>rfl
  have e2:∀ H,Jr H 0 (.pv (.bool false)) (.pv (.bool false))=some true:=fun H=>rfl
  simp -implicitDefEqProofs only[Jg,SX,sevalprocAttr,vi,hS1,Od,hcp,ht,hr,s1,d1,d2,e1,e2]
def ZT (l:List Int):ByteArray:=⟨(l.map fun n=>UInt8.ofNat n.toNat).toArray⟩
theorem By:∀ l:List Int,bytesOf (l.map u8)=some (l.map fun n=>UInt8.ofNat n.toNat)
 | []=>rfl
 |x::l=>by
  show (bytesOf (l.map u8)).map (UInt8.ofNat x.toNat:: ·)=_
  rw[By l];rfl
theorem lO (H:List ba) (l:List Int):pz H (.pv (.lit 1 (l.map u8)))=some (ZT l):=by
 show (bytesOf (l.map u8)).map _=_
 rw[By];rfl
theorem XS (H:List ba) (id:Nat) (nl:Bool) (l:List Int):pz H (.uq id nl 1 (l.map u8))=some (ZT l):=by
 show (bytesOf (l.map u8)).map _=_
 rw[By];rfl
theorem nS (H:List ba):pz H (.pv .fa)=some (ZT []):=rfl
theorem TX (x:ByteArray):cB .neq x x=some (.bool false):=by
 show some (PV.bool (!(x.data.toList==x.data.toList)))=_
 rw[aS];rfl
end Go.AM.B1
namespace Go.AM.B1
open Go.AM Go.AM.So
def HR (e:PV):Prop:=∃ a b c d f:Int,e= .agg [i64 a,i64 b,i64 c,i64 d,i64 f]
theorem aW {e:PV} (h:HR e):zk (.row [1,1,1,1,1]) e e=some true:=by
 obtain⟨a,b,c,d,f,rfl⟩:=h
 show si [1,1,1,1,1] [i64 a,i64 b,i64 c,i64 d,i64 f] [i64 a,i64 b,i64 c,i64 d,i64 f]=_
 simp[si,Mq]
theorem jA (cd:Int→Option (List Int)) (un:Int) (rb:List Int) (base out:Int):∀ (us:List Int) (i:Nat) (acc:List Int) (evs:List PV) {a e s},Xi cd un rb base out i acc evs us=(a,e,s)→(∀ x∈evs,HR x)→(∀ x∈e,HR x)∧e.length≤evs.length+us.length
 | [],i,acc,evs,a,e,s,h,he=>by
   have:evs=e:=congrArg (fun x=>x.2.1) h
   subst this;exact⟨he,by simp⟩
 |u::us,i,acc,evs,a,e,s,h,he=>by
  rw[Xi] at h
  have hev:∀ x∈evs++[Hx (base+i) u (out+acc.length)],HR x:=fun x hx=>by
   rcases List.mem_append.1 hx with h | h
   ·exact he x h
   ·rw[List.mem_singleton] at h;subst h;exact⟨_,_,_,_,_,rfl⟩
  cases hc:cd u with
  |some b=>
   rw[hc] at h
   have:=jA cd un rb base out us (i+1) _ _ h he
   exact⟨this.1,by have:=this.2;simp;omega⟩
  |none=>
   rw[hc] at h
   replace h:(if un=3 then (acc,evs++[Hx (base+i) u (out+acc.length)],true) else Xi cd un rb base out (i+1) (acc++rb) (evs++[Hx (base+i) u (out+acc.length)]) us)=(a,e,s):=h
   by_cases h3:un=3
   ·rw[if_pos h3] at h
    have:evs++[Hx (base+i) u (out+acc.length)]=e:=congrArg (fun x=>x.2.1) h
    subst this;exact⟨hev,by simp⟩
   ·rw[if_neg h3] at h
    have:=jA cd un rb base out us (i+1) _ _ h hev
    exact⟨this.1,by have:=this.2;simp at this ⊢;omega⟩
theorem XB {V W:PV} {evs:List PV} (hV:Vh 5 V evs) (hW:Vh 5 W evs) (he:∀ x∈evs,HR x) (hl:evs.length≤140737488355328):ye [V,W]=some (.bool true):=by
 have lV:=hV.len
 have lW:=hW.len
 have hat:∀ {V:PV},Vh 5 V evs→∀ (i:Nat) (h:i < evs.length) H,∃ c,wa H 5 (.pv V) (i:Int)=some (.pv (.rp c 0))∧(∀ H',ta H' true 5 (.pv (.rp c 0))=some (.pv evs[i])):=fun {V} hV i h H=>by
  obtain⟨a,b,c,d,f,hx⟩:=he _ (List.getElem_mem h)
  refine⟨[i64 a,i64 b,i64 c,i64 d,i64 f],?_,fun H'=>by rw[hx];rfl⟩
  rw[hV.lit (i:=i) h]
  simp only[wa]
  rw[if_pos ⟨trivial,by unfold Ga;omega⟩,Int.toNat_natCast,List.getElem?_eq_getElem h,hx];rfl
 have hloop:=fun (E:Tr) (h0:E.get 0= .pv V) (h1:E.get 1= .pv W) (h5:E.get 5= .pv (i64 0))=>
  Us (call:=Ca (fun _=>none) 8) (b:=Xg) (live:=[0,1,5]) (E0:=E) (H0:=[]) (Q:=fun r=>∃ E,r=(.exit 0,⟨E,[]⟩))
   (fun i:Nat=>[(0,.pv V),(1,.pv W),(5,.pv (i64 i))]) (fun _=>[]) (fun i x=>x=i) evs.length (by unfold pa;omega) (fun _=>rfl)
   (fun i x _=>⟨by simp[Dr],nz rfl,rfl⟩) ⟨0,⟨h0,h1,h5,trivial⟩,rfl,rfl⟩
   (by
    rintro _ i E hi rfl ⟨g0,g1,g5,_⟩
    obtain⟨c1,a1,b1⟩:=hat hV i hi []
    obtain⟨c2,a2,b2⟩:=hat hW i hi []
    have hs:=aW (he _ (List.getElem_mem hi))
    generalize evs[i]=e at *
    have e1:decide ((i:Int) < (evs.length:Int))=true:=Fa (by omega)
    have t1:IntKind.i64.wrap ((i:Int)+1)=((i+1:Nat):Int):=fj (by omega)
    generalize hQ:RH _ _ _ _=Q
    simp -implicitDefEqProofs only[SX,sevalprocAttr,Xg,g0,g1,g5,lV,e1,a1,a2,b1,b2,hs,t1]
    subst hQ
    exact⟨i+1,[],by simp[Has,Tr.aa,g0,g1],rfl,rfl⟩)
   (by
    rintro i E rfl ⟨g0,g1,g5,_⟩
    have e1:decide ((evs.length:Int) < (evs.length:Int))=false:=Ha (by omega)
    generalize hQ:(fun r:Ex×St=>r.1.stop=true∧_)=Q
    simp -implicitDefEqProofs only[SX,sevalprocAttr,Xg,g0,g5,lV,e1]
    subst hQ
    exact⟨rfl,_,rfl⟩)
 have x1:((evs.length:Int) != (evs.length:Int))=false:=by simp
 apply Km
 generalize hQ:(fun x=>x=PV.bool true)=Q
 simp -implicitDefEqProofs only[ye,SX,sevalprocAttr,gk,lV,lW,x1]
 refine ya (hloop _ (by simp[Tr.aa]) (by simp[Tr.aa]) (by simp[Tr.aa])) ?_
 rintro r ⟨_,E,rfl⟩
 simp -implicitDefEqProofs only[SX,sevalprocAttr]
 subst hQ
 rfl
theorem GN (H:List ba) {id sz:Nat} {nl:Bool} {es:List PV} (h:nl=true→es=[]):∃ V,Rb H 6 (.uq id nl sz es)=some V∧Vh sz V es:=by
 cases nl with
 |true=>rw[h rfl];exact⟨.fa,rfl,.inl ⟨rfl,rfl⟩⟩
 |false=>exact⟨.lit sz es,rfl,.inr rfl⟩
theorem QM {H:List ba} {id n sz bytes:Nat} {nl nl' ag:Bool} {es ys:List PV} {V:PV} (hV:Vh sz V ys) (hg:H[id]? =some (.tok sz n nl')) (hn:n=es.length) (hr:ab (es.length+ys.length) bytes):
 Gb H false .uq sz ag bytes (.uq id nl sz es) (.pv V)=some (.uq id (nl&&ys.isEmpty) sz (es++ys),H.set id (.tok sz (es.length+ys.length) (nl&&ys.isEmpty))):=by
 rcases hV with⟨rfl,rfl⟩ | rfl
 ·subst hn
  simp only[Gb,Bool.false_eq_true,if_false,hg,xf,if_true,Option.bind_some]
  rw[if_pos ⟨trivial,trivial,trivial,by simpa using hr⟩]
 ·exact Gy hg hn hr
end Go.AM.B1
