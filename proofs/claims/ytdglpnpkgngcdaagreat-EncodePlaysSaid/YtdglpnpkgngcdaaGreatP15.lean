/- What functions of the program compute. -/
import Derived.Test.YtdglpnpkgngcdaaGreatP14
import Derived.Test.YtdglpnpkgngcdaaGreatP11
import Derived.Test.YtdglpnpkgngcdaaGreatF3
import Derived.Test.YtdglpnpkgngcdaaGreatRows
set_option linter.unusedVariables false
set_option linter.unusedSimpArgs false
namespace Go.AM.B1
open Go.AM Go.AM.So
abbrev ZX:=Int×PV×List Int
def kU (o:ZX):PV:= .agg [i64 o.1,o.2.1]
structure QR (W:PV) (ops:List ZX):Prop where
 is:Vh 2 W (ops.map kU)
 us:∀ o∈ops,Vh 1 o.2.1 (o.2.2.map i64)∧o.2.2.length * 8≤140737488355328
 len:ops.length≤maxLen
section
variable {call call':Ta} {T S R R':PV} {ss:List qc} {es:List PV} {un:Int} {rb:List Int} {W:PV} {ops:List ZX}
def tB (T S R R':PV) (un:Int) (x:Int×Int×Bool×Bool):List ba:=[bc T R un x.1 x.2.1 x.2.2.1 x.2.2.2,bc S R' un x.1 x.2.1 x.2.2.1 x.2.2.2]
theorem rM (h61:∀ U H,call 61 [.ptr 0 0,U] H=xe call' zc [.ptr 0 0,U] H) (h68:∀ U H,call 68 [.ptr 1 0,U] H=xe call' Bc [.ptr 1 0,U] H)
 (h63:∀ H,call 63 [.ptr 0 0] H=xe call' fe [.ptr 0 0] H) (h69:∀ H,call 69 [.ptr 1 0] H=xe call' Pc [.ptr 1 0] H) {call'':Ta} (h62:∀ H n,call' 62 [.ptr 0 0,.pv (i64 n)] H=xe call'' qb [.ptr 0 0,.pv (i64 n)] H)
 (hS:Za S ss es) (Ba:Fc ss) (hT:PD T fun u=>Tv u ss) (hR:un=2→R= .lit 1 (rb.map u8)) (hn:un≠2→rb=[]) (hR':R'= .fa∧rb=[]∨R'= .lit 1 (rb.map u8)) (hrb:rb.length≤8) (hW:QR W ops)
 {E0:Tr} (h8:E0.get 8= .pv (.bool true)) (h9:E0.get 9= .ptr 0 0) (h11:E0.get 11= .ptr 1 0) (h70:E0.get 70= .pv W) (h71:E0.get 71= .pv (i64 ops.length)) (h72:E0.get 72= .pv (i64 0)):
 Pd (fun r=>r.1.stop=true∧∃ E H,r=(.exit 0,⟨E,H⟩)∧E.get 8= .pv (.bool true))
  (qa call (.loop [8,9,11,70,71,72] Yb) ⟨E0,tB T S R R' un (0,0,false,false)⟩):=by
 have hlen:=hW.len
 refine Us (σ:=Nat×Int×Int×Bool×Bool)
  (fun x=>[(8,.pv (.bool true)),(9,.ptr 0 0),(11,.ptr 1 0),(70,.pv W),(71,.pv (i64 ops.length)),(72,.pv (i64 x.1))])
  (fun x=>tB T S R R' un x.2)
  (fun k x=>x.1=k∧0≤x.2.1∧x.2.1≤65536∧0≤x.2.2.1∧x.2.2.1≤8 * x.2.1)
  ops.length (by unfold pa;unfold maxLen at hlen;omega) (fun _=>rfl)
  (fun i x _=>⟨by simp[Dr,IE,tB],by
   intro o ho
   simp only[tB,List.mem_cons,List.not_mem_nil,or_false] at ho
   rcases ho with rfl | rfl <;> exact Xh _ _,rfl⟩)
  ⟨(0,0,0,false,false),⟨h8,h9,h11,h70,h71,h72,trivial⟩,rfl,rfl,Int.le_refl _,by decide,Int.le_refl _,by decide⟩ ?_ ?_
 ·rintro _ ⟨i,tot,out,st,fin⟩ E hi ⟨rfl,t0,t1,o0,o1⟩ ⟨g8,g9,g11,g70,g71,g72,_⟩
  simp only at hi t0 t1 o0 o1 g8 g9 g11 g70 g71 g72
  have e1:decide ((i:Int) < (ops.length:Int))=true:=Fa (by omega)
  have w1:IntKind.i64.wrap ((i:Int)+1)=((i+1:Nat):Int):=fj (by unfold maxLen at hlen;omega)
  obtain⟨hU,hul⟩:=hW.us _ (List.getElem_mem hi)
  have a1:∀ H,wa H 2 (.pv W) (i:Int)=some (.pv (.rp [i64 ops[i].1,ops[i].2.1] 0)):=fun H=>by
   rw[hW.is.lit (i:=i) (by rw[List.length_map];exact hi)]
   simp only[wa]
   rw[if_pos ⟨trivial,by unfold Ga;rw[List.length_map];omega⟩,Int.toNat_natCast,List.getElem?_map,List.getElem?_eq_getElem hi];rfl
  generalize ops[i]=o at *
  obtain⟨kind,U,us⟩:=o
  simp only at hU hul a1
  have hU1:(AV.pv U).one=true:=by rcases hU with⟨h,_⟩ | h <;> rw[h] <;> rfl
  obtain⟨e,he⟩:∃ e,e=bc T R un tot out st fin:=⟨_,rfl⟩
  obtain⟨m,hm⟩:∃ m,m=bc S R' un tot out st fin:=⟨_,rfl⟩
  have hH:tB T S R R' un (tot,out,st,fin)=[e,m]:=by rw[he,hm];rfl
  have s1:Ea [e,m,.box [.pv (i64 0),.pv .fa]] 2 (.ptr 2 0) (.pv (.agg [i64 kind,U]))=some [e,m,.box [.pv (i64 kind),.pv U]]:=by simp[Ea,AV.cells,PV.cells,hU1,ga];rfl
  have p0:∀ (T:List ba) d,place (e::m:: .box [.pv (i64 kind),.pv U]::T) d (.ptr 2 0)=some (.ptr 2 (0+d)):=fun T d=>gd (by rfl) d 0
  have l0:∀ (T:List ba),ta (e::m:: .box [.pv (i64 kind),.pv U]::T) false 1 (.ptr 2 0)=some (.pv (i64 kind)):=fun T=>rfl
  have l1:∀ (T:List ba),ta (e::m:: .box [.pv (i64 kind),.pv U]::T) false 1 (.ptr 2 1)=some (.pv U):=fun T=>rfl
  have fin0:∀ (tot' out':Int) (st' fin':Bool) (E2:Tr) (H T':List ba),H=tB T S R R' un (tot',out',st',fin')++T'→0≤tot'∧tot'≤65536∧0≤out'∧out'≤8 * tot'→E2.get 8=E.get 8→E2.get 9=E.get 9→E2.get 11=E.get 11→E2.get 70=E.get 70→E2.get 71=E.get 71→E2.get 72= .pv (i64 (i+1:Nat))→
   ∃ (x:Nat×Int×Int×Bool×Bool) (T':List ba),Has E2 [(8,.pv (.bool true)),(9,.ptr 0 0),(11,.ptr 1 0),(70,.pv W),(71,.pv (i64 ops.length)),(72,.pv (i64 x.1))]∧H=tB T S R R' un x.2++T'∧(x.1=i+1∧0≤x.2.1∧x.2.1≤65536∧0≤x.2.2.1∧x.2.2.1≤8 * x.2.1):=by
   intro tot' out' st' fin' E2 H T' hH hb q8 q9 q11 q70 q71 q72
   exact⟨((i+1:Nat),tot',out',st',fin'),T',⟨q8.trans g8,q9.trans g9,q11.trans g11,q70.trans g70,q71.trans g71,q72,trivial⟩,hH,rfl,hb⟩
  have x0:∀ a:Int,(a != a)=false:=fun a=>by simp
  have y0:∀ (H:List ba) (b:Bool),Jr H 0 (.pv (.bool b)) (.pv (.bool b))=some true:=fun H b=>by simp[Jr]
  have hap:[e,m]++[ba.box [.pv (i64 0),.pv .fa]]=[e,m,.box [.pv (i64 0),.pv .fa]]:=rfl
  generalize hQ:RH _ _ _ _=Q
  have fin1:∀ (tot' out':Int) (st' fin':Bool) (E2:Tr) (H T':List ba),H=tB T S R R' un (tot',out',st',fin')++T'→0≤tot'∧tot'≤65536∧0≤out'∧out'≤8 * tot'→E2.get 8=E.get 8→E2.get 9=E.get 9→E2.get 11=E.get 11→E2.get 70=E.get 70→E2.get 71=E.get 71→E2.get 72= .pv (i64 (i+1:Nat))→Q (.norm,⟨E2,H⟩):=fun tot' out' st' fin' E2 H T' a b c d e f g h=>by
   subst hQ;exact fin0 tot' out' st' fin' E2 H T' a b c d e f g h
  clear hQ
  by_cases k1:kind=1
  ·have d1:(kind==1)=true:=by rw[k1];rfl
   obtain⟨A,hA⟩:∃ A,A=[e,m,.box [.pv (i64 kind),.pv U],.tok 1 us.length false]:=⟨_,rfl⟩
   have hfr:∀ H,fresh H .uq 1 false 0 []=some (.uq H.length false 1 [],H++[.tok 1 0 false]):=fun H=>rfl
   have hap2:([e,m,.box [.pv (i64 kind),.pv U]]++[.tok 1 0 false]:List ba)=[e,m,.box [.pv (i64 kind),.pv U],.tok 1 0 false]:=rfl
   have hl3:([e,m,.box [.pv (i64 kind),.pv U]]:List ba).length=3:=rfl
   have ap:Gb [e,m,.box [.pv (i64 kind),.pv U],.tok 1 0 false] false .uq 1 false 8 (.uq 3 false 1 []) (.pv U)=some (.uq 3 false 1 (us.map i64),A):=by
    rw[QM hU (n:=0) (by rfl) rfl (by unfold ab;rw[List.length_map];simpa using hul),hA];simp
   have hAg:He A:=by
    rw[hA];intro n hn o ho
    simp only[List.mem_cons,List.not_mem_nil,or_false] at ho
    rcases ho with rfl | rfl | rfl | rfl
    ·rw[he];exact Xh _ _
    ·rw[hm];exact Xh _ _
    ·exact Xh _ [i64 kind,U]
    ·rfl
   have hAl:A.length=4:=by rw[hA];rfl
   have hA0:A[0]? =some (bc T R un tot out st fin):=by rw[hA,←he];rfl
   have hA1:A[1]? =some (bc S R' un tot out st fin):=by rw[hA,←hm];rfl
   have hUs:=wC.uq us (id:=3) (n0:=A.length) false (by omega)
   have pA:∀ d,place A d (.ptr 2 0)=some (.ptr 2 (0+d)):=fun d=>gd (c:=[.pv (i64 kind),.pv U]) (by rw[hA];rfl) d 0
   have lA:ta A false 1 (.ptr 2 1)=some (.pv U):=by rw[hA];rfl
   have hne:=TX
   obtain⟨er,her⟩:∃ x:Int,x=if fin then 181 else if st then 182 else if (us.length:Int) > 65536 - tot then 183 else 0:=⟨_,rfl⟩
   by_cases h0:er=0
   ·have hff:fin=false:=by cases fin with | false=>rfl | true=>rw[if_pos rfl] at her;omega
    subst hff
    have hss:st=false:=by cases st with | false=>rfl | true=>rw[if_neg (by simp),if_pos rfl] at her;omega
    subst hss
    rw[if_neg (by simp),if_neg (by simp)] at her
    have hle:tot+us.length≤65536:=by
     by_cases hc:(us.length:Int) > 65536 - tot
     ·rw[if_pos hc] at her;omega
     ·omega
    obtain⟨r,hr,acc,evs,st',n1,n5,rfl,hgo,hn1,hn5,hal⟩:=pc (HE (c:=0) (call:=call') h62 hAg (by omega) hT hR hn hrb hUs t0 hle o0 (by omega) hA0)
    have hev:=jA _ _ _ _ _ _ _ _ _ hgo (by simp)
    obtain⟨A1,hA1e⟩:∃ x,x=Ak A 0 (bc T R un (tot+us.length) (out+acc.length) st' false) acc.length n1 evs.length n5:=⟨_,rfl⟩
    rw[← hA1e,hAl,←h61] at hr
    have hA1g:He A1:=by rw[hA1e];exact RG hAg _ _ _ _
    have hA1l:A1.length=6:=by rw[hA1e,Nn];omega
    have hA11:A1[1]? =some (bc S R' un tot out false false):=by rw[hA1e,hA,←hm];rfl
    have pA1:∀ d,place A1 d (.ptr 2 0)=some (.ptr 2 (0+d)):=fun d=>gd (c:=[.pv (i64 kind),.pv U]) (by rw[hA1e,hA];rfl) d 0
    have lA1:ta A1 false 1 (.ptr 2 1)=some (.pv U):=by rw[hA1e,hA];rfl
    obtain⟨r,hr2,acc',evs',st'',m1,m5,rfl,hgo',hm1,hm5,_⟩:=pc (AE (c:=1) (call:=call') hS Ba hA1g (by omega) hR' hrb (fun h=>hn (by omega)) hU t0 hle o0 (by omega) hA11)
    have q:=hgo.symm.trans hgo'
    have q1:acc=acc':=congrArg (fun x=>x.1) q
    have q2:evs=evs':=congrArg (fun x=>x.2.1) q
    have q3:st'=st'':=congrArg (fun x=>x.2.2) q
    subst q1 q2 q3
    obtain⟨A2,hA2e⟩:∃ x,x=Ak A1 1 (bc S R' un (tot+us.length) (out+acc.length) st' false) acc.length m1 evs.length m5:=⟨_,rfl⟩
    rw[← hA2e,hA1l,←h68] at hr2
    have hHe:A2=tB T S R R' un (tot+us.length,out+acc.length,st',false)++A2.drop 2:=by rw[hA2e,hA1e,hA];rfl
    have f1:=Jw (H:=A2) (c:=0) (T:=T) (R:=R) (un:=un) (tot:=tot+us.length) (out:=out+acc.length) (st:=st') (fin:=false) (by rw[hHe];rfl)
    have f2:=(Zy.of (H:=A2) (c:=1) (S:=S) (R:=R') (un:=un) (tot:=tot+us.length) (out:=out+acc.length) (st:=st') (fin:=false) (by rw[hHe];rfl)).get
    obtain⟨V1,v1,v1'⟩:=GN A2 (id:=5) (sz:=5) hn5
    obtain⟨V2,v2,v2'⟩:=GN A2 (id:=7) (sz:=5) hm5
    have hsm:=XB v1' v2' hev.1 (by have:=hev.2;simp at this;omega)
    have hb1:=fun H=>XS H 4 n1 acc
    have hb2:=fun H=>XS H 6 m1 acc
    replace hr:call 61 [.ptr 0 0,.uq 3 false 1 (us.map i64)] A=some (.ic [.uq 4 n1 1 (acc.map u8),.uq 5 n5 5 evs,.pv (i64 0)],A1):=hr
    replace hr2:call 68 [.ptr 1 0,.pv U] A1=some (.ic [.uq 6 m1 1 (acc.map u8),.uq 7 m5 5 evs,.pv (i64 0)],A2):=hr2
    generalize ZT acc=bs at *
    clear h61 h68 h63 h69 h62 hgo hgo' hA1e hA2e
    simp -implicitDefEqProofs only[SX,sevalprocAttr,Yb,hH,hap,g8,g9,g11,g70,g71,g72,e1,a1,Uc,s1,p0,l0,l1,d1,tj,Ql,hfr,hl3,hap2,ap,hr,pA1,lA1,hr2,hb1,hb2,hne,v1,v2,hsm,x0,y0,f1,f2,Xz,lz,Xy,w1]
    exact fin1 _ _ _ _ _ _ _ hHe ⟨by omega,by omega,by omega,by omega⟩ (by simp[Tr.aa]) (by simp[Tr.aa]) (by simp[Tr.aa]) (by simp[Tr.aa]) (by simp[Tr.aa]) (by simp[Tr.aa])
   ·have hr:=UT (c:=0) (call:=call') h62 hUs t0 t1 hA0 her h0
    have hr2:=qE (c:=1) (call:=call') hA1 hU t0 t1 her h0
    rw[← h61] at hr
    rw[← h68] at hr2
    have hHe:A=tB T S R R' un (tot,out,st,fin)++A.drop 2:=by rw[hA,he,hm];rfl
    have f1:=Jw (H:=A) (c:=0) hA0
    have f2:=(Zy.of (H:=A) (c:=1) hA1).get
    have hsm:ye [.fa,.fa]=some (.bool true):=XB (.inl ⟨rfl,rfl⟩) (.inl ⟨rfl,rfl⟩) (by simp) (by simp)
    have hb1:=nS
    clear h61 h68 h63 h69 h62 her
    generalize ZT []=bs at *
    simp -implicitDefEqProofs only[SX,sevalprocAttr,Yb,hH,hap,g8,g9,g11,g70,g71,g72,e1,a1,Uc,s1,p0,l0,l1,d1,tj,Ql,hfr,hl3,hap2,ap,hr,pA,lA,hr2,hb1,hne,hsm,x0,y0,f1,f2,Xz,lz,Xy,w1]
    exact fin1 _ _ _ _ _ _ _ hHe ⟨t0,t1,o0,o1⟩ (by simp[Tr.aa]) (by simp[Tr.aa]) (by simp[Tr.aa]) (by simp[Tr.aa]) (by simp[Tr.aa]) (by simp[Tr.aa])
  ·have d1:(kind==1)=false:=beq_false_of_ne k1
   by_cases k2:kind=2
   ·have d2:(kind==2)=true:=by rw[k2];rfl
    obtain⟨e',he'⟩:∃ e,e=bc T R un tot out st true:=⟨_,rfl⟩
    obtain⟨m',hm'⟩:∃ m,m=bc S R' un tot out st true:=⟨_,rfl⟩
    have r1:=(UG (call:=call') (A:=[e,m,.box [.pv (i64 kind),.pv U]]) (c:=0) (by rw[he];rfl)).1
    have r2:=(UG (call:=call') (A:=[e',m,.box [.pv (i64 kind),.pv U]]) (c:=1) (by rw[hm];rfl)).2
    rw[← h63,List.set_cons_zero,←he'] at r1
    rw[← h69,List.set_cons_succ,List.set_cons_zero,←hm'] at r2
    have f1:=Jw (H:=[e',m',.box [.pv (i64 kind),.pv U]]) (c:=0) (by rw[he'];rfl)
    have f2:=(Zy.of (H:=[e',m',.box [.pv (i64 kind),.pv U]]) (c:=1) (by rw[hm'];rfl)).get
    have hHe:[e',m',.box [.pv (i64 kind),.pv U]]=tB T S R R' un (tot,out,st,true)++[.box [.pv (i64 kind),.pv U]]:=by rw[he',hm'];rfl
    clear h61 h68 h63 h69 h62
    simp -implicitDefEqProofs only[SX,sevalprocAttr,Yb,hH,hap,g8,g9,g11,g70,g71,g72,e1,a1,Uc,s1,p0,l0,d1,d2,r1,r2,x0,y0,f1,f2,Xz,lz,Xy,w1]
    exact fin1 tot out st true _ _ _ hHe ⟨t0,t1,o0,o1⟩ (by simp[Tr.aa]) (by simp[Tr.aa]) (by simp[Tr.aa]) (by simp[Tr.aa]) (by simp[Tr.aa]) (by simp[Tr.aa])
   ·have d2:(kind==2)=false:=beq_false_of_ne k2
    have f1:=Jw (H:=[e,m,.box [.pv (i64 kind),.pv U]]) (c:=0) (by rw[he];rfl)
    have f2:=(Zy.of (H:=[e,m,.box [.pv (i64 kind),.pv U]]) (c:=1) (by rw[hm];rfl)).get
    have hHe:[e,m,.box [.pv (i64 kind),.pv U]]=tB T S R R' un (tot,out,st,fin)++[.box [.pv (i64 kind),.pv U]]:=by rw[he,hm];rfl
    clear h61 h68 h63 h69 h62
    simp -implicitDefEqProofs only[SX,sevalprocAttr,Yb,hH,hap,g8,g9,g11,g70,g71,g72,e1,a1,Uc,s1,p0,l0,d1,d2,x0,y0,f1,f2,Xz,lz,Xy,w1]
    exact fin1 tot out st _ _ _ _ hHe ⟨t0,t1,o0,o1⟩ (by simp[Tr.aa]) (by simp[Tr.aa]) (by simp[Tr.aa]) (by simp[Tr.aa]) (by simp[Tr.aa]) (by simp[Tr.aa])
 ·rintro⟨i,tot,out,st,fin⟩ E ⟨h,_⟩ ⟨g8,g9,g11,g70,g71,g72,_⟩
  simp only at h g8 g72 ⊢
  subst h
  have e1:decide ((ops.length:Int) < (ops.length:Int))=false:=Ha (by omega)
  generalize hQ:(fun r:Ex×St=>r.1.stop=true∧_)=Q
  simp -implicitDefEqProofs only[SX,sevalprocAttr,Yb,g71,g72,e1]
  subst hQ
  exact⟨rfl,_,_,rfl,by simp[Tr.aa,g8]⟩
end
end Go.AM.B1
namespace Go.AM.B1
open Go.AM Go.AM.So
theorem mI {S:PV} {ss:List qc} {es:List PV} (hS:Za S ss es) (hz:MD ss) (un repl:Int) {W:PV} {ops:List ZX} (hW:QR W ops):
 Zb Xb Ib [.agg [S],.agg [i64 un,i64 repl],W]=some (.bool true):=by
 have hS1:(AV.pv S).one=true:=by rcases hS.is with⟨h,_⟩ | h <;> rw[h] <;> rfl
 have hfx:=pJ
 obtain⟨T,hmd,ho⟩:=pM hS hz
 rw[Zb]
 obtain⟨call,hcall⟩:∃ x,x=Ca Xb 8:=⟨_,rfl⟩
 obtain⟨call',hcall'⟩:∃ x,x=Ca Xb 7:=⟨_,rfl⟩
 rw[← hcall]
 have k60:∀ T un repl H,call 60 [.pv T,.pv (i64 un),.pv (i64 repl)] H=xe call' Ee [.pv T,.pv (i64 un),.pv (i64 repl)] H:=fun _ _ _ _=>by rw[hcall,hcall'];rfl
 have k67:∀ S un repl H,call 67 [.pv (.agg [S]),.pv (i64 un),.pv (i64 repl)] H=xe call' Kc [.pv (.agg [S]),.pv (i64 un),.pv (i64 repl)] H:=fun _ _ _ _=>by rw[hcall,hcall'];rfl
 have h61:∀ U H,call 61 [.ptr 0 0,U] H=xe call' zc [.ptr 0 0,U] H:=fun _ _=>by rw[hcall,hcall'];rfl
 have h68:∀ U H,call 68 [.ptr 1 0,U] H=xe call' Bc [.ptr 1 0,U] H:=fun _ _=>by rw[hcall,hcall'];rfl
 have h63:∀ H,call 63 [.ptr 0 0] H=xe call' fe [.ptr 0 0] H:=fun _=>by rw[hcall,hcall'];rfl
 have h69:∀ H,call 69 [.ptr 1 0] H=xe call' Pc [.ptr 1 0] H:=fun _=>by rw[hcall,hcall'];rfl
 have h62:∀ H n,call' 62 [.ptr 0 0,.pv (i64 n)] H=xe (Ca Xb 6) qb [.ptr 0 0,.pv (i64 n)] H:=fun _ _=>by rw[hcall'];rfl
 clear hcall hcall'
 have en:∀ H,Jr H 1 (.pv .Ye) (.pv .Ye)=some true:=fun H=>rfl
 have ebb:∀ H (a b:Bool),Jr H 0 (.pv (.bool a)) (.pv (.bool b))=some (a==b):=fun H a b=>rfl
 rcases ho with rfl | ⟨Ba,_,_,l,_,hT,_⟩
 ·have hnew:=BV (H:=[]) (call:=call') un repl
  rw[← k60] at hnew
  clear k60 k67 h61 h68 h63 h69 h62
  simp -implicitDefEqProofs only[SX,sevalprocAttr,Ib,hfx,hmd,hS1,Od,Pb,Ue,wc,Tf,hnew,en]
 ·have hT:=PD.of hT Ba
  obtain⟨R0,hR0⟩:=hT.ptr
  subst hR0
  have e1:∀ H,Jr H 1 (.pv (.rp R0 0)) (.pv .Ye)=some false:=fun H=>rfl
  have hrn:=fun A=>UF (A:=A) (call:=call') (un:=un) (repl:=repl) hS Ba
  by_cases hne:vC (fun u=>Tv u ss) un repl=0
  ·obtain⟨R,hnew,hR,hR2,hR3,h1,h3,hrp⟩:=SR (H:=[]) (call:=call') hT hne
   rw[← k60] at hnew
   obtain⟨R',rb',hnew2,hrb',hR',hrb8,_⟩:=(hrn [bc (.rp R0 0) R un 0 0 false false]).2 hne
   rw[← k67] at hnew2
   subst hrb'
   have eB:bc (.rp R0 0) R un 0 0 false false= .box [.pv (.rp R0 0),.pv (i64 un),.pv R,.pv (i64 0),.pv (i64 0),.pv (.bool false),.pv (.bool false)]:=rfl
   have e3:∀ T,Jr (bc (.rp R0 0) R un 0 0 false false::T) 1 (.ptr 0 0) (.pv .Ye)=some false:=fun T=>by rw[eB];rfl
   have z0:((0:Int) != 0)=false:=rfl
   have hloop:=fun E=>rM (call:=call) (call':=call') (E0:=E) h61 h68 h63 h69 h62 hS Ba hT hR hR2 hR' hrb8 hW
   obtain⟨e,he⟩:∃ e,e=bc (.rp R0 0) R un 0 0 false false:=⟨_,rfl⟩
   obtain⟨m,hm⟩:∃ m,m=bc S R' un 0 0 false false:=⟨_,rfl⟩
   have hH:tB (.rp R0 0) S R R' un (0,0,false,false)=[e,m]:=by rw[he,hm];rfl
   rw[← he] at hnew hnew2 e3
   rw[← hm] at hnew2
   replace hnew:call 60 [.pv (.rp R0 0),.pv (i64 un),.pv (i64 repl)] []=some (.ic [.ptr 0 0,.pv (i64 0)],[e]):=hnew
   replace hnew2:call 67 [.pv (.agg [S]),.pv (i64 un),.pv (i64 repl)] [e]=some (.ic [.ptr 1 0,.pv (i64 0)],[e,m]):=hnew2
   have lW:∀ H,Tb H 0 (.pv W)=some ops.length:=fun H=>by rw[hW.is.len H,List.length_map]
   rw[hH] at hloop
   clear k60 k67 h61 h68 h63 h69 h62
   suffices key:Pd (fun r=>Rb r.2 deep r.1=some (.bool true)) (xe call Ib [.pv (.agg [S]),.pv (.agg [i64 un,i64 repl]),.pv W] []) by
    obtain⟨r,hr1,hr2⟩:=pc key
    show (xe call Ib [.pv (.agg [S]),.pv (.agg [i64 un,i64 repl]),.pv W] []).bind _=_
    rw[hr1];exact hr2
   generalize hQ:(fun r:AV×List ba=>Rb r.2 deep r.1=some (PV.bool true))=Q
   simp -implicitDefEqProofs only[SX,sevalprocAttr,Ib,hfx,hmd,hS1,Od,Pb,Ue,wc,Tf,hnew,hnew2,e1,e3,ebb,z0,lW]
   refine ya (hloop _ (by simp[Tr.aa]) (by simp[Tr.aa]) (by simp[Tr.aa]) (by simp[Tr.aa]) (by simp[Tr.aa]) (by simp[Tr.aa])) ?_
   rintro r ⟨_,E,H,rfl,q8⟩
   simp -implicitDefEqProofs only[SX,sevalprocAttr,q8]
   subst hQ
   rfl
  ·obtain⟨X,hnew,_⟩:=gV (H:=[]) (call:=call') hT hne
   rw[← k60] at hnew
   rw[List.nil_append] at hnew
   obtain⟨X2,hnew2⟩:=(hrn X).1 hne
   rw[← k67] at hnew2
   generalize vC (fun u=>Tv u ss) un repl=n at *
   have z0:(n != 0)=true:=by simp[hne]
   have z1:(n != n)=false:=by simp
   clear k60 k67 h61 h68 h63 h69 h62
   simp -implicitDefEqProofs only[SX,sevalprocAttr,Ib,hfx,hmd,hS1,Od,Pb,Ue,wc,Tf,hnew,hnew2,e1,en,ebb,z0,z1]
end Go.AM.B1
set_option maxRecDepth 100000
namespace Go.Proofs.YtdglpnpkgngcdaaGreat
open Go.ChangeShapes Go.WideShapes Go.ChangeAt Go.RowKit Go.AM
theorem HV:Tryz.prog.cellsOf 44=2:=by kernel_rfl
theorem xW:Tryz.prog.bytesOf 44=16:=by kernel_rfl
theorem DW:Tryz.prog.cellsOf 42=1:=by kernel_rfl
theorem yW:Tryz.prog.bytesOf 42=24:=by kernel_rfl
theorem aV:Tryz.prog.cellsOf 41=2:=by kernel_rfl
theorem FV:Tryz.prog.bytesOf 41=32:=by kernel_rfl
theorem QV {g:Nat} {row:List PV} (h:Sh Tryz.prog (g+2) 44 row):∃ p:Int×Int,vl Tryz.prog 44 row=B1.pr p:=by
 rw[Kt Tryz.underlying44]
 obtain⟨rows,hl,rfl,hr⟩:=Ks Tryz.underlying44 h
 match rows,hl with
 | [x,y],_=>
   obtain⟨a,rfl,_⟩:=Bw Tryz.underlying3 (hr 0 _ x rfl rfl)
   obtain⟨b,rfl,_⟩:=Bw Tryz.underlying3 (hr 1 _ y rfl rfl)
   exact⟨(a,b),rfl⟩
theorem uS {α β:Type} {f:α→β}:∀ {es:List β},(∀ e∈es,∃ a,e=f a)→∃ l:List α,es=l.map f
 | [],_=>⟨[],rfl⟩
 |e::es,h=>by
  obtain⟨a,ha⟩:=h e (by simp)
  obtain⟨l,hl⟩:=uS (es:=es) fun e he=>h e (by simp[he])
  exact⟨a::l,by rw[ha,hl];rfl⟩
theorem fU {g:Nat} {row:List PV} (h:Sh Tryz.prog (g+3) 42 row):∃ (V:PV) (l:List (Int×Int)),row=[V]∧B1.Tn V l:=by
 rcases Fw Tryz.underlying42 h with rfl | ⟨es,rfl,h1,h2,h3⟩
 ·exact⟨_,[],rfl,.inl ⟨rfl,rfl⟩,Nat.zero_le _⟩
 ·obtain⟨l,hl⟩:=uS (f:=B1.pr) (es:=es.map (vl Tryz.prog 44)) (by
   intro e he
   obtain⟨r,hr,rfl⟩:=List.mem_map.1 he
   exact QV (h3 r hr))
  have hlen:l.length=es.length:=by have:=congrArg List.length hl;simpa using this.symm
  refine⟨_,l,rfl,.inr (by rw[HV,hl]),?_⟩
  rw[hlen]
  rw[xW] at h2
  exact Nat.le_trans h2 (by decide)
theorem NC {R A:Type} {f:R→PV} {Q:PV→A→Prop}:∀ (es:List R),(∀ r∈es,∃ a,Q (f r) a)→∃ l:List A,l.length=es.length∧∀ (k:Nat) v a,(es.map f)[k]? =some v→l[k]? =some a→Q v a
 | [],_=>⟨[],rfl,by simp⟩
 |r::es,h=>by
  obtain⟨a,ha⟩:=h r (by simp)
  obtain⟨l,h1,h2⟩:=NC es fun x hx=>h x (by simp[hx])
  refine⟨a::l,by simp[h1],?_⟩
  intro k v b hv hb
  match k with
  |0=>simp at hv hb;subst hv hb;exact ha
  |k+1=>exact h2 k v b (by simpa using hv) (by simpa using hb)
theorem zS {g:Nat} {row:List PV} (h:Sh Tryz.prog (g+4) 39 row):∃ (P:PV) (ls:List (List (Int×Int))) (ps:List PV),row=[P]∧B1.Df P ls ps∧ls.length * 24≤140737488355328:=by
 rcases Fw Tryz.underlying39 h with rfl | ⟨es,rfl,h1,h2,h3⟩
 ·exact⟨_,[],[],rfl,⟨.inl ⟨rfl,rfl⟩,rfl,by simp,by simp⟩,by simp⟩
 ·obtain⟨l,hl,hq⟩:=NC (f:=vl Tryz.prog 42) (Q:=B1.Tn) es (by
   intro r hr
   obtain⟨V,l,rfl,hV⟩:=fU (h3 r hr)
   rw[sJ Tryz.underlying42]
   exact⟨l,hV⟩)
  have hz:l.length * 24≤140737488355328:=by rw[yW] at h2;rw[hl];exact Nat.le_trans h2 (by decide)
  exact⟨_,l,es.map (vl Tryz.prog 42),rfl,⟨.inr (by rw[DW]),by rw[List.length_map,hl],hq,by unfold maxLen;omega⟩,hz⟩
theorem IS {g:Nat} {row:List PV} (h:Sh Tryz.prog (g+5) 41 row):∃ (s:B1.qc),(∃ P ps,B1.zf (vl Tryz.prog 41 row) s P ps)∧s.parts.length * 24≤140737488355328:=by
 rw[Kt Tryz.underlying41]
 obtain⟨rows,hl,rfl,hr⟩:=Ks Tryz.underlying41 h
 match rows,hl with
 | [x,y],_=>
   obtain⟨P,ls,ps,rfl,hP,hz⟩:=zS (hr 0 _ x rfl rfl)
   obtain⟨b,rfl,_⟩:=Bw Tryz.underlying3 (hr 1 _ y rfl rfl)
   exact⟨⟨ls,b⟩,⟨P,ps,rfl,hP⟩,hz⟩
theorem fP {g:Nat} {row:List PV} (h:Sh Tryz.prog (g+6) 22 row):∃ (S:PV) (ss:List B1.qc) (es:List PV),row=[S]∧B1.Za S ss es∧B1.MD ss:=by
 rcases Fw Tryz.underlying22 h with rfl | ⟨es,rfl,h1,h2,h3⟩
 ·exact⟨_,[],[],rfl,⟨.inl ⟨rfl,rfl⟩,rfl,by simp,by simp⟩,⟨by simp,by simp⟩⟩
 ·obtain⟨l,hl,hq⟩:=NC (f:=vl Tryz.prog 41) (Q:=fun e s=>(∃ P ps,B1.zf e s P ps)∧s.parts.length * 24≤140737488355328) es (fun r hr=>IS (h3 r hr))
  have hz:l.length * 32≤140737488355328:=by rw[FV] at h2;rw[hl];exact Nat.le_trans h2 (by decide)
  refine⟨_,l,es.map (vl Tryz.prog 41),rfl,⟨.inr (by rw[aV]),by rw[List.length_map,hl],fun k e s he hs=>(hq k e s he hs).1,by unfold maxLen;omega⟩,hz,?_⟩
  intro s hs
  obtain⟨k,hk,rfl⟩:=List.getElem_of_mem hs
  exact (hq k _ _ (List.getElem?_eq_getElem (by rw[List.length_map];omega)) (List.getElem?_eq_getElem hk)).2
theorem aP {g:Nat} {row:List PV} (h:Sh Tryz.prog (g+7) 24 row):∃ (S:PV) (ss:List B1.qc) (es:List PV),row=[S]∧B1.Za S ss es∧B1.MD ss:=by
 obtain⟨rows,hl,rfl,hr⟩:=Ks Tryz.underlying24 h
 match rows,hl with
 | [x],_=>
   obtain⟨S,ss,es,rfl,h1,h2⟩:=fP (hr 0 _ x rfl rfl)
   exact⟨S,ss,es,rfl,h1,h2⟩
theorem own:ownKnob Tryz.prog.godebug=none:=by kernel_rfl
theorem laidOut:laidOutB Tryz.prog=true:=by kernel_rfl
theorem wf_i64 {n:Int} (h:(Lit.int .i64 n).wf=true): -9223372036854775808≤n∧n≤9223372036854775807:=by
 simp only[Lit.wf,Bool.and_eq_true,decide_eq_true_eq] at h
 exact h
end Go.Proofs.YtdglpnpkgngcdaaGreat
namespace Go.Proofs.YtdglpnpkgngcdaaGreat
open Go.ChangeShapes Go.WideShapes Go.ChangeAt Go.RowKit Go.AM
theorem FX:Tryz.prog.cellsOf 3=1:=by kernel_rfl
theorem dX:Tryz.prog.bytesOf 3=8:=by kernel_rfl
theorem KU {g:Nat} {row:List PV} (h:Sh Tryz.prog (g+2) 77 row):∃ (U:PV) (us:List Int),row=[U]∧B1.Vh 1 U (us.map B1.i64)∧us.length * 8≤reachBytes∧∀ u∈us,u≤9223372036854775807:=by
 rcases AU Tryz.underlying77 Tryz.underlying3 h with rfl | ⟨l,rfl,_,hl,hw⟩
 ·exact⟨_,[],rfl,.inl ⟨rfl,rfl⟩,Nat.zero_le _,by simp⟩
 ·rw[dX] at hl
  exact⟨_,l,rfl,.inr (by rw[FX]),hl,fun u hu=>(wf_i64 (hw u hu)).2⟩
theorem fX {g:Nat} {row:List PV} (h:Sh Tryz.prog (g+2) 83 row):∃ un repl:Int,row=[B1.i64 un,B1.i64 repl]:=by
 obtain⟨rows,hl,rfl,hr⟩:=Ks Tryz.underlying83 h
 match rows,hl with
 | [x,y],_=>
   obtain⟨a,rfl,_⟩:=Bw Tryz.underlying75 (hr 0 _ x rfl rfl)
   obtain⟨b,rfl,_⟩:=Bw Tryz.underlying3 (hr 1 _ y rfl rfl)
   exact⟨a,b,rfl⟩
end Go.Proofs.YtdglpnpkgngcdaaGreat
namespace Go.Proofs.YtdglpnpkgngcdaaGreat
open Go.ChangeShapes Go.WideShapes Go.ChangeAt Go.RowKit Go.AM
theorem nU:Tryz.prog.cellsOf 111=2:=by kernel_rfl
theorem eW {g:Nat} {row:List PV} (h:Sh Tryz.prog (g+3) 111 row):∃ o:B1.ZX,vl Tryz.prog 111 row=B1.kU o∧B1.Vh 1 o.2.1 (o.2.2.map B1.i64)∧o.2.2.length * 8≤140737488355328:=by
 rw[Kt Tryz.underlying111]
 obtain⟨rows,hl,rfl,hr⟩:=Ks Tryz.underlying111 h
 match rows,hl with
 | [x,y],_=>
   obtain⟨k,rfl,_⟩:=Bw Tryz.underlying3 (hr 0 _ x rfl rfl)
   obtain⟨U,us,rfl,hU,hul,_⟩:=KU (hr 1 _ y rfl rfl)
   exact⟨(k,U,us),rfl,hU,Nat.le_trans hul (by decide)⟩
theorem qU {g:Nat} {row:List PV} (h:Sh Tryz.prog (g+4) 106 row):∃ (W:PV) (ops:List B1.ZX),row=[W]∧B1.QR W ops:=by
 rcases Fw Tryz.underlying106 h with rfl | ⟨es,rfl,h1,h2,h3⟩
 ·exact⟨_,[],rfl,.inl ⟨rfl,rfl⟩,by simp,Nat.zero_le _⟩
 ·obtain⟨l,hl,hq⟩:=NC (f:=vl Tryz.prog 111) (Q:=fun e o=>e=B1.kU o∧B1.Vh 1 o.2.1 (o.2.2.map B1.i64)∧o.2.2.length * 8≤140737488355328) es (fun r hr=>eW (h3 r hr))
  have hm:es.map (vl Tryz.prog 111)=l.map B1.kU:=by
   apply List.ext_getElem
   ·rw[List.length_map,List.length_map,hl]
   ·intro k k1 k2
    rw[List.getElem_map (f:=B1.kU)]
    exact (hq k _ _ (List.getElem?_eq_getElem k1) (List.getElem?_eq_getElem (by simpa using k2))).1
  refine⟨_,l,rfl,.inr (by rw[nU,hm]),?_,by rw[hl];exact h1⟩
  intro o ho
  obtain⟨k,hk,rfl⟩:=List.getElem_of_mem ho
  exact (hq k _ _ (List.getElem?_eq_getElem (by rw[List.length_map,←hl];exact hk)) (List.getElem?_eq_getElem hk)).2
end Go.Proofs.YtdglpnpkgngcdaaGreat
