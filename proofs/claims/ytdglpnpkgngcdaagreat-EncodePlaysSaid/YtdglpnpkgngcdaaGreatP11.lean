/- What functions of the program compute. -/
import Derived.Test.YtdglpnpkgngcdaaGreatP10
import Derived.Test.YtdglpnpkgngcdaaGreatP9
import Derived.Test.YtdglpnpkgngcdaaGreatP6
set_option linter.unusedVariables false
set_option linter.unusedSimpArgs false
namespace Go.AM.B1
open Go.AM Go.AM.So
attribute [local irreducible] Pd
structure MD (ss:List qc):Prop where
 len:ss.length * 32≤140737488355328
 parts:∀ s∈ss,s.parts.length * 24≤140737488355328
def NA (ls:List (List (Int×Int))):List PV:=ls.map Le
def aX (ls:List (List (Int×Int))):PV:=if ls.isEmpty then .fa else .lit 1 (NA ls)
def JK (s:qc):PV:= .agg [aX s.parts,i64 s.first]
def Uo (ss:List qc):List PV:=ss.map JK
def AY (ss:List qc):PV:=if ss.isEmpty then .fa else .lit 2 (Uo ss)
abbrev XX (row:List PV) (i:Int):Tr:=(((Tr.lf.set 4 (.pv (i64 i))).set 3 (.ptr 1 0)).set 2 (.ptr 0 0)).set 1 (.pv (.rp row 0))
abbrev uF (nl:Bool) (out:List PV) (first:Int):ba:= .box [.uq 2 nl 1 out,.pv (i64 first)]
theorem xF {e:PV} {s:qc} {P:PV} {ps:List PV} (h:zf e s P ps) (hsz:s.parts.length * 24≤140737488355328):mg [e]=some (JK s):=by
 obtain⟨rfl,hP⟩:=h
 have hP1:(AV.pv P).one=true:=by rcases hP.is with⟨h,_⟩ | h <;> rw[h] <;> rfl
 have ln:=hP.Tb
 have hc3:∀ nl out n,Pa (oa 3) [.box [.pv .fa,.pv (i64 0)],uF nl out s.first,.tok 1 n nl]=some [.box [.pv .fa,.pv (i64 0)],uF nl out s.first,.tok 1 n nl]:=fun nl out n=>rfl
 have htk3:∀ a b c d:ba,([a,b,c,d]:List ba).take 3=[a,b,c]:=fun a b c d=>rfl
 have htk3':∀ a b c:ba,([a,b,c]:List ba).take 3=[a,b,c]:=fun a b c=>rfl
 have d0:(0 < 3)=True:=by simp
 have d1:(1 < 3)=True:=by simp
 have hloop:Pd (fun r=>∃ E nl,r=(.exit 0,⟨E,[.box [.pv .fa,.pv (i64 0)],uF s.parts.isEmpty (NA s.parts) s.first,.tok 1 s.parts.length nl]⟩)∧E.get 2= .ptr 0 0∧E.get 3= .ptr 1 0)
  (pb (ma (qa (Ca (fun _=>none) 8) Yd) (na 3 [1,2,3,4])) pa ⟨XX [P,i64 s.first] 0,[.box [.pv .fa,.pv (i64 0)],uF true [] s.first,.tok 1 0 true]⟩):=by
  refine ya (Mb (g:=ma (qa (Ca (fun _=>none) 8) Yd) (na 3 [1,2,3,4]))
   (fun i t=>t=⟨XX [P,i64 s.first] i,[.box [.pv .fa,.pv (i64 0)],uF (s.parts.take i).isEmpty (NA (s.parts.take i)) s.first,.tok 1 i (s.parts.take i).isEmpty]⟩)
   s.parts.length (by unfold pa;omega) _ rfl ?_ ?_) (fun r h=>h.2)
  ·rintro i t hi rfl
   obtain⟨v,hv,hpt,_⟩:=hP.Sd hi []
   have a1:=hP.bw hv
   have hnext:s.parts.take (i+1)=s.parts.take i++[s.parts[i]]:=by simp
   have hie:(s.parts.take (i+1)).isEmpty=false:=by rw[hnext];cases s.parts.take i <;> rfl
   have hcl:NA (s.parts.take (i+1))=NA (s.parts.take i)++[Le s.parts[i]]:=by rw[hnext,NA,List.map_append];rfl
   have hcn:(NA (s.parts.take i)).length=i:=by rw[NA,List.length_map,List.length_take];omega
   have hep:Le s.parts[i]= .lit 2 (Xd s.parts[i]):=rfl
   rw[hep] at hcl
   have hLN:∀ st:St,st=⟨XX [P,i64 s.first] (i+1:Nat),[.box [.pv .fa,.pv (i64 0)],uF false (NA (s.parts.take (i+1))) s.first,.tok 1 (i+1) false]⟩→
    LN (fun i t=>t=⟨XX [P,i64 s.first] i,[.box [.pv .fa,.pv (i64 0)],uF (s.parts.take i).isEmpty (NA (s.parts.take i)) s.first,.tok 1 i (s.parts.take i).isEmpty]⟩)
     (fun r=>∃ E nl,r=(.exit 0,⟨E,[.box [.pv .fa,.pv (i64 0)],uF s.parts.isEmpty (NA s.parts) s.first,.tok 1 s.parts.length nl]⟩)∧E.get 2= .ptr 0 0∧E.get 3= .ptr 1 0) i (.norm,st):=by
    intro st h
    show st=_
    rw[h,hie]
   generalize LN _ _ i=QQ at hLN ⊢
   have hpz:=hpt.sz
   have hpi:=hpt.is
   have hpl:(Xd s.parts[i]).length=s.parts[i].length:=by simp[Xd]
   generalize s.parts[i]=l at *
   generalize (s.parts.take i).isEmpty=nl at *
   have hap1:Gb [.box [.pv .fa,.pv (i64 0)],uF nl (NA (s.parts.take i)) s.first,.tok 1 i nl,.tok 2 0 false] false .uq 2 true 16 (.uq 3 false 2 []) (.pv v)=some (.uq 3 false 2 (Xd l),[.box [.pv .fa,.pv (i64 0)],uF nl (NA (s.parts.take i)) s.first,.tok 1 i nl,.tok 2 l.length false]):=by
    rcases hpi with⟨h1,h2⟩ | h1
    ·have:l.length=0:=by rw[← hpl,h2];rfl
     rw[h1,h2,this];rfl
    ·rw[h1]
     simp only[Gb,Bool.false_eq_true,if_false,List.getElem?_cons_succ,List.getElem?_cons_zero,xf,if_true,Option.bind_some]
     rw[if_pos ⟨trivial,trivial,rfl,by rw[hpl];unfold ab;simp;exact hpz⟩]
     simp[hpl]
   have hap2:Gb [.box [.pv .fa,.pv (i64 0)],uF nl (NA (s.parts.take i)) s.first,.tok 1 i nl,.tok 2 l.length false] false .uq 1 false 24 (.uq 2 nl 1 (NA (s.parts.take i))) (.pv (.lit 1 [.lit 2 (Xd l)]))=some (.uq 2 false 1 (NA (s.parts.take (i+1))),[.box [.pv .fa,.pv (i64 0)],uF nl (NA (s.parts.take i)) s.first,.tok 1 (i+1) false,.tok 2 l.length false]):=by
    have:=Lg (A:=[.box [.pv .fa,.pv (i64 0)],uF nl (NA (s.parts.take i)) s.first,.tok 1 i nl,.tok 2 l.length false]) (id:=2) (n:=i) (sz:=1) (h:= .uq) (nl:=nl) (ag:=false) (bytes:=24) (es:=NA (s.parts.take i)) rfl hcn.symm (by unfold ab;omega) (.lit 2 (Xd l))
    rw[this,hcl];rfl
   have e1:decide ((i:Int) < (s.parts.length:Int))=true:=Fa (by omega)
   have t2:IntKind.i64.wrap ((i:Int)+1)=((i+1:Nat):Int):=Aa (by omega)
   generalize NA (s.parts.take i)=o at *
   generalize NA (s.parts.take (i+1))=o' at *
   generalize Xd l=es at *
   have pl:∀ c d,place [.box [.pv .fa,.pv (i64 0)],uF nl o s.first,c,d] 0 (.ptr 1 0)=some (.ptr 1 0):=fun c d=>rfl
   have pl':∀ c,place [.box [.pv .fa,.pv (i64 0)],uF nl o s.first,c] 0 (.ptr 1 0)=some (.ptr 1 0):=fun c=>rfl
   have ld:∀ c,ta [.box [.pv .fa,.pv (i64 0)],uF nl o s.first,c] false 1 (.ptr 1 0)=some (.uq 2 nl 1 o):=fun c=>rfl
   have st:∀ c d,Ea [.box [.pv .fa,.pv (i64 0)],uF nl o s.first,c,d] 1 (.ptr 1 0) (.uq 2 false 1 o')=some [.box [.pv .fa,.pv (i64 0)],uF false o' s.first,c,d]:=fun c d=>rfl
   have hc3':=hc3 false o' (i+1)
   simp -implicitDefEqProofs only[SP,WP,ga,sevalprocAttr,Yd,Pb,wc,ln,e1,t2,a1,Sa,pl,pl',ld,st,hap1,hap2,hc3',htk3,d0,d1,yi,AV.KC,AV.Lo,na,za,AV.cut,ua,XX]
   exact hLN _ rfl
  ·rintro t rfl
   rw[List.take_length]
   have e1:decide ((s.parts.length:Int) < (s.parts.length:Int))=false:=Ha (by omega)
   generalize NA s.parts=o
   generalize s.parts.isEmpty=nl
   generalize hQ:(fun r:Ex×St=>r.1.stop=true∧_)=Q
   simp -implicitDefEqProofs only[SP,WP,ga,sevalprocAttr,Yd,Pb,wc,ln,e1,XX]
   subst hQ
   exact⟨rfl,_,nl,rfl,by simp[Tr.aa],by simp[Tr.aa]⟩
 have st0:Ea [.box [.pv .fa,.pv (i64 0)],.box [.pv .fa,.pv (i64 0)]] 2 (.ptr 1 0) (.pv (.agg [.fa,i64 s.first]))=some [.box [.pv .fa,.pv (i64 0)],.box [.pv .fa,.pv (i64 s.first)]]:=rfl
 have g1:(0 < 1)=True:=by simp
 have hc30:=hc3 true [] 0
 have ld1:∀ nl out c,ta [.box [.pv .fa,.pv (i64 0)],uF nl out s.first,c] true 2 (.ptr 1 0)=some (.agg [.uq 2 nl 1 out,.pv (i64 s.first)]):=fun nl out c=>rfl
 have st1:∀ nl out b c,Ea [.box [.pv .fa,.pv (i64 0)],b,c] 2 (.ptr 0 0) (.agg [.uq 2 nl 1 out,.pv (i64 s.first)])=some [uF nl out s.first,b,c]:=fun nl out b c=>rfl
 have ld2:∀ nl out b c,ta [uF nl out s.first,b,c] true 2 (.ptr 0 0)=some (.agg [.uq 2 nl 1 out,.pv (i64 s.first)]):=fun nl out b c=>rfl
 apply Km
 unfold JK aX
 generalize NA s.parts=o at *
 generalize s.parts.isEmpty=em at *
 simp -implicitDefEqProofs only[mg,SP,WP,ga,sevalprocAttr,Zh,hP1,Pb,Ue,wc,Tf,st0,ff,g1,Fb,hc30,htk3',d0,d1,na,za,AV.cut,ua]
 refine ya hloop ?_
 rintro r ⟨E,nl,rfl,k2,k3⟩
 cases em <;> simp -implicitDefEqProofs only[SP,WP,ga,sevalprocAttr,k2,k3,ld1,st1,ld2]
abbrev WX (row:List PV) (i:Int):Tr:=(((Tr.lf.set 4 (.pv (i64 i))).set 3 (.ptr 1 0)).set 2 (.ptr 0 0)).set 1 (.pv (.rp row 0))
abbrev OI (nl:Bool) (out:List PV):ba:= .box [.uq 2 nl 2 out]
theorem JO {S:PV} {ss:List qc} {es:List PV} (hS:Za S ss es) (hz:MD ss):ri [.agg [S]]=some (.agg [AY ss]):=by
 have hS1:(AV.pv S).one=true:=by rcases hS.is with⟨h,_⟩ | h <;> rw[h] <;> rfl
 have ln:=hS.Tb
 have wS:=hz.len
 have hc3:∀ nl out n,Pa (oa 3) [.box [.pv .fa],OI nl out,.tok 2 n nl]=some [.box [.pv .fa],OI nl out,.tok 2 n nl]:=fun nl out n=>rfl
 have htk3:∀ a b c:ba,([a,b,c]:List ba).take 3=[a,b,c]:=fun a b c=>rfl
 have d0:(0 < 3)=True:=by simp
 have d1:(1 < 3)=True:=by simp
 have hloop:Pd (fun r=>∃ E nl,r=(.exit 0,⟨E,[.box [.pv .fa],OI ss.isEmpty (Uo ss),.tok 2 ss.length nl]⟩)∧E.get 2= .ptr 0 0∧E.get 3= .ptr 1 0)
  (pb (ma (qa (Ca (fun _=>none) 8) Gf) (na 3 [1,2,3,4])) pa ⟨WX [S] 0,[.box [.pv .fa],OI true [],.tok 2 0 true]⟩):=by
  refine ya (Mb (g:=ma (qa (Ca (fun _=>none) 8) Gf) (na 3 [1,2,3,4]))
   (fun i t=>t=⟨WX [S] i,[.box [.pv .fa],OI (ss.take i).isEmpty (Uo (ss.take i)),.tok 2 i (ss.take i).isEmpty]⟩)
   ss.length (by unfold pa;omega) _ rfl ?_ ?_) (fun r h=>h.2)
  ·rintro i t hi rfl
   obtain⟨P,ps,hP,a1⟩:=hS.Sd hi
   have hcs:=xF hP (hz.parts _ (List.getElem_mem hi))
   have hnext:ss.take (i+1)=ss.take i++[ss[i]]:=by simp
   have hie:(ss.take (i+1)).isEmpty=false:=by rw[hnext];cases ss.take i <;> rfl
   have hcl:Uo (ss.take (i+1))=Uo (ss.take i)++[JK ss[i]]:=by rw[hnext,Uo,List.map_append];rfl
   have hcn:(Uo (ss.take i)).length=i:=by rw[Uo,List.length_map,List.length_take];omega
   have hep:JK ss[i]= .agg [aX ss[i].parts,i64 ss[i].first]:=rfl
   rw[hep] at hcl hcs
   have hLN:∀ st:St,st=⟨WX [S] (i+1:Nat),[.box [.pv .fa],OI false (Uo (ss.take (i+1))),.tok 2 (i+1) false]⟩→
    LN (fun i t=>t=⟨WX [S] i,[.box [.pv .fa],OI (ss.take i).isEmpty (Uo (ss.take i)),.tok 2 i (ss.take i).isEmpty]⟩)
     (fun r=>∃ E nl,r=(.exit 0,⟨E,[.box [.pv .fa],OI ss.isEmpty (Uo ss),.tok 2 ss.length nl]⟩)∧E.get 2= .ptr 0 0∧E.get 3= .ptr 1 0) i (.norm,st):=by
    intro st h
    show st=_
    rw[h,hie]
   generalize LN _ _ i=QQ at hLN ⊢
   have hpo:(AV.pv (aX ss[i].parts)).one=true:=by unfold aX;split <;> rfl
   generalize aX ss[i].parts=pv at *
   generalize ss[i].first=fi at *
   generalize (ss.take i).isEmpty=nl at *
   have hap2:Gb [.box [.pv .fa],OI nl (Uo (ss.take i)),.tok 2 i nl] false .uq 2 true 32 (.uq 2 nl 2 (Uo (ss.take i))) (.pv (.lit 2 [.agg [pv,i64 fi]]))=some (.uq 2 false 2 (Uo (ss.take (i+1))),[.box [.pv .fa],OI nl (Uo (ss.take i)),.tok 2 (i+1) false]):=by
    have:=Lg (A:=[.box [.pv .fa],OI nl (Uo (ss.take i)),.tok 2 i nl]) (id:=2) (n:=i) (sz:=2) (h:= .uq) (nl:=nl) (ag:=true) (bytes:=32) (es:=Uo (ss.take i)) rfl hcn.symm (by unfold ab;omega) (.agg [pv,i64 fi])
    rw[this,hcl];rfl
   have e1:decide ((i:Int) < (ss.length:Int))=true:=Fa (by omega)
   have t2:IntKind.i64.wrap ((i:Int)+1)=((i+1:Nat):Int):=Aa (by omega)
   generalize Uo (ss.take i)=o at *
   generalize Uo (ss.take (i+1))=o' at *
   have pl:∀ c,place [.box [.pv .fa],OI nl o,c] 0 (.ptr 1 0)=some (.ptr 1 0):=fun c=>rfl
   have ld:∀ c,ta [.box [.pv .fa],OI nl o,c] false 1 (.ptr 1 0)=some (.uq 2 nl 2 o):=fun c=>rfl
   have st:∀ c,Ea [.box [.pv .fa],OI nl o,c] 1 (.ptr 1 0) (.uq 2 false 2 o')=some [.box [.pv .fa],OI false o',c]:=fun c=>rfl
   have hc3':=hc3 false o' (i+1)
   simp -implicitDefEqProofs only[SP,WP,ga,sevalprocAttr,Gf,Kb,Sa,Uc,ln,e1,t2,a1,hcs,pl,ld,st,hap2,hpo,hc3',htk3,d0,d1,yi,AV.KC,AV.Lo,na,za,AV.cut,ua,WX]
   exact hLN _ rfl
  ·rintro t rfl
   rw[List.take_length]
   have e1:decide ((ss.length:Int) < (ss.length:Int))=false:=Ha (by omega)
   generalize Uo ss=o
   generalize ss.isEmpty=nl
   generalize hQ:(fun r:Ex×St=>r.1.stop=true∧_)=Q
   simp -implicitDefEqProofs only[SP,WP,ga,sevalprocAttr,Gf,Kb,Sa,ln,e1,WX]
   subst hQ
   exact⟨rfl,_,nl,rfl,by simp[Tr.aa],by simp[Tr.aa]⟩
 have st0:Ea [.box [.pv .fa],.box [.pv .fa]] 1 (.ptr 1 0) (.pv (.agg [.fa]))=some [.box [.pv .fa],.box [.pv .fa]]:=rfl
 have g1:(0 < 2)=True:=by simp
 have hc30:=hc3 true [] 0
 have ld1:∀ nl out c,ta [.box [.pv .fa],OI nl out,c] true 1 (.ptr 1 0)=some (.agg [.uq 2 nl 2 out]):=fun nl out c=>rfl
 have st1:∀ nl out b c,Ea [.box [.pv .fa],b,c] 1 (.ptr 0 0) (.agg [.uq 2 nl 2 out])=some [OI nl out,b,c]:=fun nl out b c=>rfl
 have ld2:∀ nl out b c,ta [OI nl out,b,c] true 1 (.ptr 0 0)=some (.agg [.uq 2 nl 2 out]):=fun nl out b c=>rfl
 apply Km
 unfold AY
 generalize Uo ss=o at *
 generalize ss.isEmpty=em at *
 simp -implicitDefEqProofs only[ri,SP,WP,ga,sevalprocAttr,ik,hS1,Kb,Sa,st0,ff,g1,Fb,hc30,htk3,d0,d1,na,za,AV.cut,ua]
 refine ya hloop ?_
 rintro r ⟨E,nl,rfl,k2,k3⟩
 cases em <;> simp -implicitDefEqProofs only[SP,WP,ga,sevalprocAttr,k2,k3,ld1,st1,ld2]
theorem JS {ls:List (List (Int×Int))} (hl:ls.length≤maxLen) (h:∀ l∈ls,l.length * 16≤140737488355328):Df (aX ls) ls (NA ls):=by
 refine⟨?_,by simp[NA],?_,hl⟩
 ·cases ls with
  |nil=>exact .inl ⟨rfl,rfl⟩
  |cons a r=>exact .inr rfl
 ·intro k v l hv hl
  rw[NA,List.getElem?_map,hl] at hv
  simp at hv;subst hv
  exact⟨.inr rfl,h l (List.mem_of_getElem? hl)⟩
theorem tL {S:PV} {ss:List qc} {es:List PV} (hS:Za S ss es):Za (AY ss) ss (Uo ss):=by
 refine⟨?_,by simp[Uo],?_,hS.sz⟩
 ·cases ss with
  |nil=>exact .inl ⟨rfl,rfl⟩
  |cons a r=>exact .inr rfl
 ·intro k e s he hs
  rw[Uo,List.getElem?_map,hs] at he
  simp at he;subst he
  obtain⟨i,hi⟩:=List.getElem_of_mem (List.mem_of_getElem? hs)
  obtain⟨hk,hks⟩:=List.getElem?_eq_some_iff.1 hs
  obtain⟨e',P,ps,_,_,hP⟩:=hS.get hk
  rw[hks] at hP
  exact⟨aX s.parts,NA s.parts,rfl,JS hP.parts.sz (hS.LY s (List.mem_of_getElem? hs))⟩
end Go.AM.B1
namespace Go.AM.B1
open Go.AM Go.AM.So
attribute [local irreducible] Pd
end Go.AM.B1
namespace Go.AM.B1
open Go.AM
def SD (l:List (List Af)):Nat→Int→List Int→Int×Int
 |i,_,[]=>(i,2)
 |i,st,b::r=>if (EB l st b).2=false then ((i:Int),3) else if (EB l st b).1= -1 then (((i+1:Nat):Int),1) else SD l (i+1) (EB l st b).1 r
section
variable (call:Ta) (A B:PV) (l:List (List Af)) (hA:Bn A l) (bs:List Int) (hB:Vh 1 B (bs.map u8)) (hb:∀ b∈bs,0≤b∧b≤255) (hw:bs.length≤maxLen)
include hA hB hb hw
end
end Go.AM.B1
namespace Go.AM.B1
open Go.AM
section
variable (A:PV) (l:List (List Af)) (hA:Bn A l)
include hA
end
section
variable (call:Ta) (av bs:List PV) (i:Nat) (a b:List Af) (V W:PV) (hia:i < av.length) (hib:i < bs.length) (hV:av[i]? =some V) (hW:bs[i]? =some W) (hVL:Vh 3 V (a.map AF)) (hWL:Vh 3 W (b.map AF)) (hw:a.length≤maxLen)
include hia hV hVL
include hib hW hWL hw
end
end Go.AM.B1
namespace Go.AM.B1
open Go.AM
section
variable (A B:PV) (l m:List (List Af)) (hA:Bn A l) (hB:Bn B m)
include hA hB
end
end Go.AM.B1
namespace Go.AM.B1
open Go.AM Go.AM.So
theorem aC (row:List Int):∀ (xs:List Nat) (l:List Af),(Be row xs l).length≤l.length+xs.length
 | [],l=>by simp[Be]
 |x::xs,l=>by
  rw[Be]
  have h1:=aC row xs (Wf x (row.getD x 0) l)
  have h2:=yG x (row.getD x 0) l
  simp only[List.length_cons];omega
theorem uL (row:List Int):(Xf row).length≤256:=by
 have:=aC row (List.range 256) []
 simpa[Xf] using this
theorem oD (C:List Int):∀ (k:Nat) (r:List Int×List (List Af)),(ej C k r).2.length≤r.2.length+k∧∀ e∈(ej C k r).2,e∈r.2∨e.length≤256
 |0,r=>⟨by simp[ej],fun e he=> .inl he⟩
 |k+1,r=>by
  cases ho:r.1[r.2.length]? with
  |none=>rw[aq ho];exact⟨by omega,fun e he=> .inl he⟩
  |some o=>
   rw[Vq ho]
   obtain⟨h1,h2⟩:=oD C k ((bg C o r.1).1,r.2++[Xf (bg C o r.1).2])
   simp only[List.length_append,List.length_singleton] at h1
   refine⟨by omega,fun e he=> ?_⟩
   rcases h2 e he with h3 | h3
   ·simp only[List.mem_append,List.mem_singleton] at h3
    rcases h3 with h3 | h3
    ·exact .inl h3
    ·refine .inr ?_;rw[h3];exact uL _
   ·exact .inr h3
theorem nP (C:List Int) (k:Nat) (o:List Int):(ej C k (o,[])).2.length≤k∧∀ e∈(ej C k (o,[])).2,e.length≤256:=by
 have h:=oD C k (o,[])
 generalize ej C k (o,[])=r at h ⊢
 refine⟨by simpa using h.1,fun e he=> ?_⟩
 rcases h.2 e he with h | h
 ·cases h
 ·exact h
set_option maxRecDepth 8000 in
theorem UQ (C:List Int):(cn C).length≤64∧∀ e∈cn C,e.length≤256:=nP C 64 [0]
theorem ZA {ss:List qc} {l:List (List Af)} (h:oh ss=some l):l.length≤64∧∀ e∈l,e.length≤256:=by
 unfold oh at h
 rw[Option.map_eq_some_iff] at h
 obtain⟨r,_,rfl⟩:=h
 exact UQ _
theorem uJ (e:List Af):Vh 3 (je e) (e.map AF):=by
 unfold je
 cases e with
 |nil=>exact .inl ⟨rfl,rfl⟩
 |cons a r=>exact .inr rfl
theorem gE {l:List (List Af)} (h1:l.length≤64) (h2:∀ e∈l,e.length≤256):Bn (El l) l:=by
 refine⟨⟨l.map je,.inr rfl,by simp,?_⟩,by omega,fun e he=>by have:=h2 e he;omega⟩
 intro i v e hv he
 rw[List.getElem?_map,he] at hv
 simp at hv;subst hv
 exact uJ e
theorem MA:Bn .fa []:=⟨⟨[],.inl ⟨rfl,rfl⟩,rfl,by simp⟩,by simp,by simp⟩
theorem MM (ss:List qc):∃ (V:PV) (l:List (List Af)) (n:Int),Bn V l∧(n=0↔∃ l',oh ss=some l'∧Fc ss∧bh ss∧V=El l'∧l=l')∧(n≠0→V= .fa)∧
 (∀ (A:PV) (ea:List PV),Za A ss ea→Ic [.agg [A]]=some (.ic [.agg [V],i64 n]))∧(∀ (A:PV) (ea:List PV),Za A ss ea→Xa [.agg [A]]=some (.ic [.agg [V],i64 n])):=by
 by_cases h1:Fc ss
 ·by_cases h2:bh ss
  ·cases h3:oh ss with
   |none=>exact⟨.fa,[],130,MA,⟨fun h=>(by cases h),fun ⟨_,h,_⟩=>(by cases h)⟩,fun _=>rfl,fun A ea h=>(Ei h).2.2.1 h1 h2 h3,fun A ea h=>(En h).2.2.1 h1 h2 h3⟩
   |some l=>
    obtain⟨k1,k2⟩:=ZA h3
    exact⟨El l,l,0,gE k1 k2,⟨fun _=>⟨l,rfl,h1,h2,rfl,rfl⟩,fun _=>rfl⟩,fun h=>absurd rfl h,fun A ea h=>(Ei h).2.2.2 h1 h2 l h3,fun A ea h=>(En h).2.2.2 h1 h2 l h3⟩
  ·exact⟨.fa,[],110,MA,⟨fun h=>(by cases h),fun ⟨_,_,_,h,_⟩=>absurd h h2⟩,fun _=>rfl,fun A ea h=>(Ei h).2.1 h1 h2,fun A ea h=>(En h).2.1 h1 h2⟩
 ·exact⟨.fa,[],84,MA,⟨fun h=>(by cases h),fun ⟨_,_,h,_⟩=>absurd h h1⟩,fun _=>rfl,fun A ea h=>(Ei h).1 h1,fun A ea h=>(En h).1 h1⟩
end Go.AM.B1
namespace Go.AM.B1
open Go.AM Go.AM.So
def Fo (es:List Af):PV:= .agg ((List.range 256).map fun b=> .int .i8 (Tm es b))
theorem JB {α:Type} {cs vs:List α} (h:vs.length=cs.length):ga cs 0 vs=vs:=by
 apply List.ext_getElem?
 intro p
 rw[So.qh]
 by_cases hp:p < cs.length
 ·rw[dif_pos ⟨by omega,by omega,hp⟩];simp
 ·rw[dif_neg (by omega),List.getElem?_eq_none (by omega),List.getElem?_eq_none (by omega)]
theorem setRow_self {α:Type} (cs:List α):ga cs 0 cs=cs:=JB rfl
theorem nO:ba.box ((List.replicate 256 (PV.int .i8 0)).map .pv)=b8 fun _=>0:=by
 unfold b8 cellsOf
 rw[List.map_const',List.length_range,List.map_replicate]
theorem WU (n:Nat):(List.replicate n (AV.pv (.int .i8 0))).all AV.one=true:=by
 rw[List.all_eq_true];intro x hx;rw[List.eq_of_mem_replicate hx];rfl
def Sv (o0 o1 o4 o5:ba) (c0 c1 c3 c4 c5:AV) (nl:Bool) (es:List PV):List ba:=[o0,o1,.box [c0,c1,.uq 3 nl 256 es,c3,c4,c5],.tok 256 es.length nl,o4,o5]
section
variable {call:Ta} {o0 o1 o4 o5:ba} {c0 c1 c3 c4 c5:AV}
 (hg:∀ nl es,He (Sv o0 o1 o4 o5 c0 c1 c3 c4 c5 nl es))
include hg
theorem eS {E:Tr} {V:PV} {l:List (List Af)} {i:Nat} {nl:Bool} {es:List PV} (hV:Vh 1 V (l.map je)) (hl:l.length≤64) (hle:∀ e∈l,e.length≤256) (Ba:∀ e∈l,Rn e) (hi:i < l.length) (he:es.length=i)
 (h8:E.get 8= .ptr 2 0) (h101:E.get 101= .pv V) (h102:E.get 102= .pv (i64 l.length)) (h103:E.get 103= .pv (i64 i)):
 Pd (fun r=>∃ E',r=(.norm,⟨E',Sv o0 o1 o4 o5 c0 c1 c3 c4 c5 false (es++[Fo l[i]])++[b8 (Tm l[i])]⟩)∧ee [8,101,102] E E'∧E'.get 103= .pv (i64 (i+1:Nat)))
  (qa call ni ⟨E,Sv o0 o1 o4 o5 c0 c1 c3 c4 c5 nl es⟩):=by
 have hV1:=hV.lit (i:=i) (by simpa using hi)
 have hml:=List.getElem_mem hi
 have hie:=Ba _ hml
 have hilen:=hle _ hml
 have hA:=hg nl es
 have hAl:(Sv o0 o1 o4 o5 c0 c1 c3 c4 c5 nl es).length=6:=rfl
 have e1:decide ((i:Int) < (l.length:Int))=true:=Fa (by omega)
 have t1:IntKind.i64.wrap ((i:Int)+1)=((i+1:Nat):Int):=fj (by omega)
 have hvc:(je l[i]).cells=[je l[i]]:=by unfold je;split <;> rfl
 have a1:wa (Sv o0 o1 o4 o5 c0 c1 c3 c4 c5 nl es) 1 (.pv V) (i:Int)=some (.pv (.rp [je l[i]] 0)):=by
  rw[hV1]
  simp only[wa]
  rw[if_pos ⟨trivial,by unfold Ga;rw[List.length_map];omega⟩,Int.toNat_natCast,List.getElem?_map,List.getElem?_eq_getElem hi,Option.map_some,Option.map_some,hvc]
 have hL:=uJ l[i]
 have lL:=hL.len
 rw[List.length_map] at lL
 have hclr:=fun (E2:Tr) (q8:E2.get 8= .ptr 2 0) (q12:E2.get 12= .pv (je l[i])) (q13:E2.get 13= .ptr 6 0) (q101:E2.get 101= .pv V) (q102:E2.get 102= .pv (i64 l.length)) (q103:E2.get 103= .pv (i64 i)) (q108:E2.get 108= .pv (i64 0))=>
  QS (call:=call) hA (g0:=fun _=>0) (tb:=2) (by rw[hAl];omega) q8 q12 q13 q101 q102 q103 q108
 have hedg:=fun (E2:Tr) (q8:E2.get 8= .ptr 2 0) (q13:E2.get 13= .ptr 6 0) (q101:E2.get 101= .pv V) (q102:E2.get 102= .pv (i64 l.length)) (q103:E2.get 103= .pv (i64 i)) (q114:E2.get 114= .pv (je l[i])) (q115:E2.get 115= .pv (i64 l[i].length)) (q116:E2.get 116= .pv (i64 0))=>
  DT (call:=call) hA (tb:=2) hie hL hilen (by rw[hAl];omega) q8 q13 q101 q102 q103 q114 q115 q116
 generalize l[i]=ed at *
 have s0:Ea (Sv o0 o1 o4 o5 c0 c1 c3 c4 c5 nl es++[b8 fun _=>0]) 256 (.ptr 6 0) (.pv (.agg (List.replicate 256 (PV.int .i8 0))))=some (Sv o0 o1 o4 o5 c0 c1 c3 c4 c5 nl es++[b8 fun _=>0]):=by
  have hq:=Ej (Sv o0 o1 o4 o5 c0 c1 c3 c4 c5 nl es) (b8 fun _=>0)
  have hs:=Jn (Sv o0 o1 o4 o5 c0 c1 c3 c4 c5 nl es) (b8 fun _=>0) (b8 fun _=>0)
  rw[hAl] at hq hs
  simp only[Ea,hq,AV.cells,PV.cells,List.length_map,List.length_replicate,List.map_replicate]
  rw[if_pos ⟨trivial,WU 256⟩]
  rw[← nO,List.map_replicate] at hs ⊢
  simp only[List.length_replicate]
  rw[if_pos (by omega),setRow_self,hs]
 generalize hA1:Sv o0 o1 o4 o5 c0 c1 c3 c4 c5 nl es++[b8 fun _=>0]=A1 at *
 have hbz:Sv o0 o1 o4 o5 c0 c1 c3 c4 c5 nl es++[ba.box ((List.replicate 256 (PV.int .i8 0)).map .pv)]=A1:=by rw[nO];exact hA1
 have hap:=So.Ef (List.replicate 256 (PV.int .i8 0))
 rw[List.map_replicate] at hap hbz
 generalize hA0:Sv o0 o1 o4 o5 c0 c1 c3 c4 c5 nl es=A0 at *
 generalize hQ:(fun r:Ex×St=>∃ E',r=_∧_)=Q
 simp -implicitDefEqProofs only[SX,sevalprocAttr,-List.reduceReplicate,ni,h8,h101,h102,h103,e1,a1,Sa,hap,hAl,hbz,s0,List.map_replicate]
 generalize hEE:(Tr.set _ 108 _:Tr)=E2
 have k2:ee [8,101,102,103] E E2:=by
  rw[← hEE]
  repeat refine ee.set ?_ rfl
  exact ee.refl _ _
 have q12:E2.get 12= .pv (je ed):=by rw[← hEE];simp[Tr.aa,-List.reduceReplicate]
 have q13:E2.get 13= .ptr 6 0:=by rw[← hEE];simp[Tr.aa,-List.reduceReplicate]
 have q108:E2.get 108= .pv (i64 0):=by rw[← hEE];simp[Tr.aa,-List.reduceReplicate]
 refine ya (hclr E2 ((k2 8 (by simp)).trans h8) q12 q13 ((k2 101 (by simp)).trans h101) ((k2 102 (by simp)).trans h102) ((k2 103 (by simp)).trans h103) q108) ?_
 rintro r ⟨_,E3,rfl,k3⟩
 have k3:ee [8,12,13,101,102,103] E2 E3:=k3
 have z12:=(k3 12 (by simp)).trans q12
 simp -implicitDefEqProofs only[SX,sevalprocAttr,-List.reduceReplicate,z12,lL]
 generalize hEE4:(Tr.set _ 116 _:Tr)=E4
 have k4:ee [8,101,102,103] E E4:=by
  rw[← hEE4]
  repeat refine ee.set ?_ rfl
  exact k2.trans (ee.sub k3 rfl)
 have q13:E4.get 13= .ptr 6 0:=by rw[← hEE4];simp[Tr.aa];exact (k3 13 (by simp)).trans q13
 have q114:E4.get 114= .pv (je ed):=by rw[← hEE4];simp[Tr.aa]
 have q115:E4.get 115= .pv (i64 ed.length):=by rw[← hEE4];simp[Tr.aa]
 have q116:E4.get 116= .pv (i64 0):=by rw[← hEE4];simp[Tr.aa]
 refine ya (hedg E4 ((k4 8 (by simp)).trans h8) q13 ((k4 101 (by simp)).trans h101) ((k4 102 (by simp)).trans h102) ((k4 103 (by simp)).trans h103) q114 q115 q116) ?_
 rintro r ⟨_,E5,rfl,k5⟩
 have k5:ee [8,13,101,102,103] E4 E5:=k5
 have k5':ee [8,101,102,103] E E5:=k4.trans (ee.sub k5 rfl)
 have z8:=(k5' 8 (by simp)).trans h8
 have z103:=(k5' 103 (by simp)).trans h103
 have z13:=(k5 13 (by simp)).trans q13
 have p2:∀ d,place (A0++[b8 (Tm ed)]) d (.ptr 2 0)=some (.ptr 2 (0+d)):=fun d=>gd (by rw[← hA0];rfl) d 0
 have l2:ta (A0++[b8 (Tm ed)]) false 1 (.ptr 2 2)=some (.uq 3 nl 256 es):=by rw[← hA0];rfl
 have l13:ta (A0++[b8 (Tm ed)]) true 256 (.ptr 6 0)=some (.pv (Fo ed)):=by
  have hgt:(A0++[b8 (Tm ed)])[6]? =some (b8 (Tm ed)):=by rw[← hA0];rfl
  have hl:(cellsOf 256 fun b=>AV.pv (.int .i8 (Tm ed b))).length=256:=Ag _ _
  have:cellsOf 256 (fun b=>AV.pv (.int .i8 (Tm ed b)))=((List.range 256).map fun b=>PV.int .i8 (Tm ed b)).map .pv:=by rw[cellsOf,List.map_map];rfl
  rw[ta,hgt]
  show Og true 256 (cellsOf 256 fun b=>AV.pv (.int .i8 (Tm ed b))) 0=_
  rw[Og,if_pos rfl,if_pos (by rw[hl];exact Nat.le_refl _),List.drop_zero,List.take_of_length_le (by rw[hl];exact Nat.le_refl _),this,ir,So.Ef];rfl
 have hap2:Gb (A0++[b8 (Tm ed)]) false .uq 256 true 256 (.uq 3 nl 256 es) (.pv (.lit 256 [Fo ed]))=some (.uq 3 false 256 (es++[Fo ed]),[o0,o1,.box [c0,c1,.uq 3 nl 256 es,c3,c4,c5],.tok 256 (es.length+1) false,o4,o5,b8 (Tm ed)]):=by
  rw[← hA0]
  simp only[Gb,Sv,xf,List.cons_append,List.nil_append,List.getElem?_cons_succ,List.getElem?_cons_zero,if_true,Option.bind_some,List.length_cons,List.length_nil]
  rw[if_neg (by simp)]
  rw[if_pos ⟨trivial,trivial,trivial,by unfold ab;omega⟩]
  simp
 have p3:∀ d,place [o0,o1,.box [c0,c1,.uq 3 nl 256 es,c3,c4,c5],.tok 256 (es.length+1) false,o4,o5,b8 (Tm ed)] d (.ptr 2 0)=some (.ptr 2 (0+d)):=fun d=>gd rfl d 0
 have s3:Ea [o0,o1,.box [c0,c1,.uq 3 nl 256 es,c3,c4,c5],.tok 256 (es.length+1) false,o4,o5,b8 (Tm ed)] 1 (.ptr 2 2) (.uq 3 false 256 (es++[Fo ed]))=some (Sv o0 o1 o4 o5 c0 c1 c3 c4 c5 false (es++[Fo ed])++[b8 (Tm ed)]):=by
  have:(es++[Fo ed]).length=es.length+1:=by simp
  unfold Sv
  rw[this];rfl
 obtain⟨N,hN⟩:∃ N,N=(List.range 256).map fun b=>PV.int .i8 (Tm ed b):=⟨_,rfl⟩
 have hNl:N.length=256:=by rw[hN,List.length_map,List.length_range]
 have hNo:(N.map AV.pv).all AV.one=true:=by
  rw[hN,List.all_eq_true];intro x hx
  rw[List.mem_map] at hx;obtain⟨y,hy,rfl⟩:=hx
  rw[List.mem_map] at hy;obtain⟨z,_,rfl⟩:=hy
  rfl
 have hNP:Fo ed= .agg N:=by rw[hN];rfl
 rw[hNP] at l13 hap2 s3 hQ
 have m0:(PV.agg N).cells=N:=rfl
 have m1:ga (List.map AV.pv (List.replicate 256 (PV.int .i8 0))++[]) 0 (N.map .pv)=N.map .pv:=JB (by rw[List.length_map,List.length_append,List.length_map,List.length_replicate,hNl];rfl)
 have m2:(N.map AV.pv).length=256:=by rw[List.length_map,hNl]
 have m3:=So.Ef N
 have m5:(256≤(List.map AV.pv (List.replicate 256 (PV.int .i8 0))++[]).length)=True:=eq_true (by rw[List.length_append,List.length_map,List.length_replicate];exact Nat.le_add_right _ _)
 have m6:List.take 256 N=N:=List.take_of_length_le (by omega)
 clear hN hNP
 simp -implicitDefEqProofs only[SP,WP,ga,sevalprocAttr,-List.reduceReplicate,z8,z103,z13,p2,l2,l13,hap2,p3,s3,t1,m0,m1,m2,m3,m5,m6,hNo]
 subst hQ
 refine⟨_,rfl,?_,by simp[Tr.aa]⟩
 repeat refine ee.set ?_ rfl
 exact ee.sub k5' rfl
end
end Go.AM.B1
namespace Go.AM.B1
open Go.AM Go.AM.So
theorem uu {p:Int×Int} (h0:0≤p.1) (h1:p.1≤p.2):((Qf 0 p).length:Int)=p.2 - p.1+1:=by
 rw[lJ h0 h1,List.length_map,List.length_range];omega
theorem Yz {p:Int×Int} (h0:0≤p.1) (h1:p.1≤p.2) {k:Nat} (hk:(k:Int) < p.2 - p.1+1):(Qf 0 p)[k]? =some (p.1+k):=by
 rw[lJ h0 h1,List.getElem?_map,List.getElem?_range (by omega)];rfl
theorem dz {top:Int}:∀ {l:List (Int×Int)} {last:Int} (n:Int),Na top last l=true→oc n l=n+(Bk l).length
 | [],_,n,_=>by simp[oc,Bk]
 |p::l,last,n,h=>by
  obtain⟨h1,h2,h3,h4,h5⟩:=Vd h
  replace h1:0≤p.1:=by omega
  replace h2:p.1≤p.2:=by omega
  have hl:=uu h1 h2
  rw[oc,dz _ h5,Bk,List.length_append]
  omega
theorem Et {top:Int}:∀ {l:List (Int×Int)} {last:Int} {n x:Int} {k:Nat},Na top last l=true→(Bk l)[k]? =some x→kg x n l=(n+k,true)∧0≤x∧x≤top∧last+1 < x
 | [],_,n,x,k,_,hk=>by simp[Bk] at hk
 |p::l,last,n,x,k,h,hk=>by
  obtain⟨h1,h2,h3,h4,h5⟩:=Vd h
  replace h1:0≤p.1:=by omega
  replace h2:p.1≤p.2:=by omega
  have hl:=uu h1 h2
  rw[Bk] at hk
  rcases Nat.lt_or_ge k (Qf 0 p).length with hlt | hge
  ·rw[List.getElem?_append_left hlt,Yz h1 h2 (by omega)] at hk
   injection hk with hk
   subst hk
   rw[kg,if_neg (by omega),if_pos (by omega)]
   exact⟨by rw[Prod.mk.injEq];exact⟨by omega,rfl⟩,by omega,by omega,by omega⟩
  ·rw[List.getElem?_append_right hge] at hk
   obtain⟨g1,g2,g3,g4⟩:=Et (n:=n+(p.2 - p.1+1)) h5 hk
   rw[kg,if_neg (by omega),if_neg (by omega),g1]
   exact⟨by rw[Prod.mk.injEq];exact⟨by omega,rfl⟩,g2,g3,by omega⟩
theorem Bu {top:Int}:∀ {l:List (Int×Int)} {last:Int} {n x:Int},Na top last l=true→(kg x n l).2=true→∃ k:Nat,(Bk l)[k]? =some x∧(kg x n l).1=n+k
 | [],_,n,x,_,hk=>by simp[kg] at hk
 |p::l,last,n,x,h,hk=>by
  obtain⟨h1,h2,h3,h4,h5⟩:=Vd h
  replace h1:0≤p.1:=by omega
  replace h2:p.1≤p.2:=by omega
  have hl:=uu h1 h2
  rw[kg] at hk ⊢
  by_cases c1:x < p.1
  ·rw[if_pos c1] at hk;cases hk
  ·rw[if_neg c1] at hk ⊢
   by_cases c2:x≤p.2
   ·rw[if_pos c2]
    refine⟨(x - p.1).toNat,?_,by show n+x - p.1=_;omega⟩
    rw[Bk,List.getElem?_append_left (by omega),Yz h1 h2 (by omega)]
    congr 1;omega
   ·rw[if_neg c2] at hk ⊢
    obtain⟨k,g1,g2⟩:=Bu h5 hk
    refine⟨(Qf 0 p).length+k,?_,by rw[g2];omega⟩
    rw[Bk,List.getElem?_append_right (by omega),Nat.add_sub_cancel_left];exact g1
end Go.AM.B1
namespace Go.AM.B1
open Go.AM Go.AM.So
theorem GG:∀ (l:List (Int×Int)),Pa cG (Xd l)=some l
 | []=>rfl
 |p::l=>by
  show (cG (pr p)).bind _=_
  have:cG (pr p)=some p:=rfl
  rw[this,Option.bind_some]
  show ((Pa cG (Xd l)).bind fun bs=>some (p::bs))=_
  rw[GG l];rfl
theorem bP {v:PV} {l:List (Int×Int)} (h:Vh 2 v (Xd l)):VD v=some l:=by
 rcases h with⟨rfl,h⟩ | rfl
 ·cases l with
  |nil=>rfl
  |cons p l=>cases h
 ·exact GG l
theorem dE {v:PV} {l:List (Int×Int)} (h:Vh 2 v (Xd l)) (hv:Na 255 (-2) l=true) (hlen:l.length≤4611686018427387904):
 Jk [.rp [v] 0,.rp [i64 0] 0]=some ((Bk l).map fun x=>[i64 x]):=by
 have hsm:l.all fI=true:=by
  have:∀ (l:List (Int×Int)) (last:Int),Na 255 last l=true→l.all fI=true:=by
   intro l
   induction l with
   |nil=>intro _ _;rfl
   |cons p l ih=>
    intro last h
    obtain⟨h1,h2,h3,h4,h5⟩:=Vd h
    rw[List.all_cons,ih _ h5,Bool.and_true]
    exact decide_eq_true (by omega)
  exact this l _ hv
 simp only[Jk,bP h,Option.bind_some,hsm,Bool.true_and]
 rw[if_pos (decide_eq_true (by omega)),zU]
theorem vF {v:PV} {l:List (Int×Int)} (hv:Tn v l) (hp:Bd l):∃ u,Vh 2 u (Xd l)∧∀ H,Ca eh 8 39 [.pv v,.pv (i64 0)] H=some (.Sk 35 [.pv (.rp [u] 0),.pv (.rp [i64 0] 0)],H):=by
 obtain⟨u,q1,q2⟩:=Qx v l hv.is hv.sz
 rw[dO hp.2] at q2
 refine⟨u,q2,fun H=> ?_⟩
 have hu1:(AV.pv u).one=true:=by rcases q2 with⟨h,_⟩ | h <;> rw[h] <;> rfl
 have huc:(AV.pv u).cells=[.pv u]:=by rcases q2 with⟨h,_⟩ | h <;> rw[h] <;> rfl
 have c38:eh 38=some Vu:=rfl
 rw[Wz eh 7 39 _ H (f:=dm) rfl]
 simp -implicitDefEqProofs only[SX,sevalprocAttr,dm,Vu,q1,c38,hu1,huc]
end Go.AM.B1
namespace Go.AM.B1
open Go.AM Go.AM.So
def bY (v:AV) (H:List ba) (es:List PV):Prop:=(es=[]∧v= .pv .fa)∨(∃ tk,es≠[]∧v= .uq tk false 1 es∧H[tk]? =some (.tok 1 es.length false))
theorem fV {x:Int} (h0:0≤x) (h1:x≤255):IntKind.u8.wrap x=x:=by
 unfold IntKind.wrap
 simp[IntKind.signed,IntKind.bits]
 omega
theorem XT {x:Int} (h0:0≤x) (h1:x≤65535):IntKind.u16.wrap x=x:=by
 unfold IntKind.wrap
 simp[IntKind.signed,IntKind.bits]
 omega
theorem YT (call:Ta) {e:Tr} {H:List ba} {bx oid m off fl:Nat} {g:Nat→AV} {x:Int} {es:List PV} (h6:e.get 6= .ptr bx 0) (h7:e.get 7= .pv (i64 x)) (hb:H[bx]? =some (.box [.Mc oid m off])) (ho:H[oid]? =some (.seq 258 true (cellsOf m g) fl false))
 (hoff:off+258≤m) (hx0:0≤x) (hx1:x≤255) (hB:bY (g off) H es) (hlen:es.length≤255):
 ∃ s' fl' v,fl'≤m∧qa call Kk ⟨e,H⟩=some (.norm,s')∧s'.H[bx]? =some (.box [.Mc oid m off])∧
  s'.H[oid]? =some (.seq 258 true (cellsOf m (Mv (Mv g off v) (off+1+x.toNat) (.pv (.int .u16 (es.length+1))))) fl' false)∧bY v s'.H (es++[.int .u8 x])∧∀ (j:Nat) c,H[j]? =some (.box c)→s'.H[j]? =some (.box c):=by
 have hbo:bx≠oid:=by intro e;subst e;rw[hb] at ho;cases ho
 have wx:=fV hx0 hx1
 have l6:ta H false 1 (.ptr bx 0)=some (.Mc oid m off):=by simp[ta,hb,Og]
 have lo:=wD (off:=off) ho rfl (by omega)
 have po:∀ d,place H d (.Mc oid m off)=some (.Mc oid m (off+d)):=fun d=>Wt ho rfl
 have app:∃ v H1,Gb H false .uq 1 false 1 (g off) (.pv (.lit 1 [.int .u8 x]))=some (v,H1)∧bY v H1 (es++[.int .u8 x])∧H1[bx]? =some (.box [.Mc oid m off])∧H1[oid]? =some (.seq 258 true (cellsOf m g) fl false)∧v.cells=[v]∧v.one=true∧(∀ K,Tb K 0 v=some (es.length+1))∧∀ (j:Nat) c,H[j]? =some (.box c)→H1[j]? =some (.box c):=by
  rcases hB with⟨rfl,hg⟩ | ⟨tk,hne,hg,htk⟩
  ·refine⟨.uq H.length false 1 [.int .u8 x],H++[.tok 1 1 false],by rw[hg];simp[Gb,xf,Qo],.inr ⟨H.length,by simp,rfl,by simp⟩,?_,?_,rfl,rfl,fun _=>rfl,fun j c hj=>by rw[getElem?_push (getElem?_lt hj)];exact hj⟩
   ·rw[getElem?_push (getElem?_lt hb)];exact hb
   ·rw[getElem?_push (getElem?_lt ho)];exact ho
  ·have h1:tk≠bx:=by intro e;subst e;rw[hb] at htk;cases htk
   have h2:tk≠oid:=by intro e;subst e;rw[ho] at htk;cases htk
   refine⟨.uq tk false 1 (es++[.int .u8 x]),H.set tk (.tok 1 (es.length+1) false),?_,.inr ⟨tk,by simp,rfl,by rw[List.getElem?_set_self (getElem?_lt htk)];simp⟩,?_,?_,rfl,rfl,fun _=>by simp[Tb],fun j c hj=>by rw[List.getElem?_set_ne (fun e=>by subst e;rw[htk] at hj;cases hj)];exact hj⟩
   ·rw[hg];simp[Gb,xf,htk];omega
   ·rw[List.getElem?_set_ne h1];exact hb
   ·rw[List.getElem?_set_ne h2];exact ho
 obtain⟨v,H1,ha,hB1,hb1,ho1,hv1,hv2,hv3,hbox⟩:=app
 have po1:∀ d,place H1 d (.Mc oid m off)=some (.Mc oid m (off+d)):=fun d=>Wt ho1 rfl
 have st1:=tA (off:=off) ho1 rfl (by omega) hv1 hv2
 generalize hH2:H1.set oid (.seq 258 true (cellsOf m (Mv g off v)) m false)=H2 at st1
 have hb2:H2[bx]? =some (.box [.Mc oid m off]):=by rw[← hH2,List.getElem?_set_ne (Ne.symm hbo)];exact hb1
 have ho2:H2[oid]? =some (.seq 258 true (cellsOf m (Mv g off v)) m false):=by rw[← hH2,List.getElem?_set_self (getElem?_lt ho1)]
 have l62:ta H2 false 1 (.ptr bx 0)=some (.Mc oid m off):=by simp[ta,hb2,Og]
 have lo2:=wD (off:=off) ho2 rfl (by omega)
 rw[Bt] at lo2
 have po2:∀ d off',place H2 d (.Mc oid m off')=some (.Mc oid m (off'+d)):=fun d off'=>Wt ho2 rfl
 have w2:IntKind.u16.wrap ((es.length+1:Nat):Int)=(es.length:Int)+1:=by rw[XT (by omega) (by omega)];omega
 have st2:=tA (off:=off+1+x.toNat) (v:= .pv (.int .u16 ((es.length:Int)+1))) ho2 rfl (by omega) rfl rfl
 have hidx:(0≤x∧x < ((256:Nat):Int))=True:=eq_true (by omega)
 generalize hH3:H2.set oid (.seq 258 true (cellsOf m (Mv (Mv g off v) (off+1+x.toNat) (.pv (.int .u16 ((es.length:Int)+1))))) m false)=H3 at st2
 have key:Pd (fun r=>r.1= .norm∧r.2.H=H3) (qa call Kk ⟨e,H⟩):=by
  clear hB hB1 hb ho hb1 ho1 hb2 ho2 hH2 hH3
  have hsr:ga [AV.pv (PV.int .u8 0)] 0 [AV.pv (PV.int .u8 x)]=[AV.pv (PV.int .u8 x)]:=rfl
  have hal:([AV.pv (PV.int .u8 x)].all AV.one=true)=True:=eq_true rfl
  have hfr:fresh H .lit 1 false 1 [AV.pv (PV.int .u8 x)]=some (.pv (.lit 1 [.int .u8 x]),H):=rfl
  generalize hQ:(fun r:Ex×St=>r.1=Ex.norm∧_)=Q
  simp -implicitDefEqProofs only[SX,sevalprocAttr,Kk,h6,h7,l6,lo,po,wx,ha,po1,st1,l62,lo2,po2,hv3,w2,hidx,st2,hsr,hal,hfr]
  subst hQ
  exact⟨rfl,rfl⟩
 obtain⟨⟨ex,s'⟩,h1,h2,h3⟩:=pc key
 simp only at h2 h3
 subst h2
 refine⟨s',m,v,Nat.le_refl _,h1,?_,?_,?_,fun j c hj=> ?_⟩
 ·rw[h3,←hH3,List.getElem?_set_ne (Ne.symm hbo)];exact hb2
 ·rw[h3,←hH3];exact List.getElem?_set_self (getElem?_lt ho2)
 ·rcases hB1 with h | ⟨tk,q1,q2,q3⟩
  ·exact .inl h
  ·have h4:tk≠oid:=by intro e;subst e;rw[ho1] at q3;cases q3
   refine .inr ⟨tk,q1,q2,?_⟩
   rw[h3,←hH3,List.getElem?_set_ne (Ne.symm h4),←hH2,List.getElem?_set_ne (Ne.symm h4)];exact q3
 ·have hj1:=hbox j c hj
  have hne:oid≠j:=fun e=>by subst e;rw[ho1] at hj1;cases hj1
  rw[h3,←hH3,List.getElem?_set_ne hne,←hH2,List.getElem?_set_ne hne];exact hj1
end Go.AM.B1
namespace Go.AM.B1
open Go.AM Go.AM.So
def qY (x:Int):PV:= .int .u8 x
theorem of_inner (call:Ta) {e:Tr} {bx oid m off:Nat} (h6:e.get 6= .ptr bx 0) (hoff:off+258≤m):∀ (xs:List Int) {H:List ba} {fl:Nat} {g:Nat→AV} {es:List PV},H[bx]? =some (.box [.Mc oid m off])→H[oid]? =some (.seq 258 true (cellsOf m g) fl false)→
 (∀ x∈xs,0≤x∧x≤255)→xs.Nodup→bY (g off) H es→es.length+xs.length≤256→
 ∃ H' fl' g',(fl≤m→fl'≤m)∧Rk (fun x H=>qa call Kk ⟨tC [(7,40)] (vt [40] x e),H⟩) (xs.map fun x=>[i64 x]) H=some (.norm,H')∧H'[bx]? =some (.box [.Mc oid m off])∧H'[oid]? =some (.seq 258 true (cellsOf m g') fl' false)∧
  bY (g' off) H' (es++xs.map qY)∧(∀ j,j≠off→(∀ x∈xs,j≠off+1+x.toNat)→g' j=g j)∧(∀ (k:Nat) x,xs[k]? =some x→g' (off+1+x.toNat)= .pv (.int .u16 ((es.length+k:Nat)+1)))∧∀ (j:Nat) c,H[j]? =some (.box c)→H'[j]? =some (.box c):=by
 intro xs
 induction xs with
 |nil=>
  intro H fl g es hb ho _ _ hB _
  exact⟨H,fl,g,id,rfl,hb,ho,by simpa using hB,fun _ _ _=>rfl,fun k x h=>by simp at h,fun _ _ h=>h⟩
 |cons x xs ih=>
  intro H fl g es hb ho hx hnd hB hlen
  obtain⟨hx0,hx1⟩:=hx x (by simp)
  have hnd':=List.nodup_cons.1 hnd
  have e6:(tC [(7,40)] (vt [40] [i64 x] e)).get 6= .ptr bx 0:=by simp[tC,vt,Tr.aa,h6]
  have e7:(tC [(7,40)] (vt [40] [i64 x] e)).get 7= .pv (i64 x):=by simp[tC,vt,Tr.aa]
  obtain⟨s',fl',v,q0,q1,q2,q3,q4,q5⟩:=YT call e6 e7 hb ho hoff hx0 hx1 hB (by simp at hlen;omega)
  have hne:off≠off+1+x.toNat:=by omega
  obtain⟨H',fl2,g',r0,r1,r2,r3,r4,r5,r6,r7⟩:=ih (es:=es++[qY x]) q2 q3 (fun y hy=>hx y (by simp[hy])) hnd'.2 (by rw[jv _ _ hne,Bt];exact q4) (by simp at hlen ⊢;omega)
  refine⟨H',fl2,g',fun _=>r0 q0,?_,r2,r3,by simpa using r4,fun j h1 h2=> ?_,fun k y hk=> ?_,fun j c hj=>r7 j c (q5 j c hj)⟩
  ·simp only[List.map_cons,Rk,q1,wB];exact r1
  ·rw[r5 j h1 fun y hy=>h2 y (by simp[hy]),jv _ _ (h2 x (by simp)),jv _ _ h1]
  ·cases k with
   |zero=>
    simp at hk;subst hk
    rw[r5 _ (by omega) (fun y hy e=>by
     have:=(hx y (by simp[hy])).1
     have:y=x:=by omega
     subst this;exact hnd'.1 hy),Bt]
    simp
   |succ k=>
    have:=r6 k y (by simpa using hk)
    rw[this]
    congr 3
    simp;omega
end Go.AM.B1
namespace Go.AM.B1
open Go.AM Go.AM.So
theorem gP {e:Tr} {H:List ba} {s:qc} {P:PV} {ps:List PV} {sb oid fl i:Nat} {prod:Int} {g:Nat→AV} (hp:Df P s.parts ps) (hi:i < s.parts.length) (Ba:Bd s.parts[i])
 (h1:e.get 1= .pv (.rp [P,i64 s.first] 0)) (h3:e.get 3= .ptr sb 0) (h4:e.get 4= .pv (i64 prod)) (h5:e.get 5= .pv (i64 i)) (hs:H[sb]? =some (.box [.own oid s.parts.length])) (ho:H[oid]? =some (.seq 258 true (cellsOf (s.parts.length * 258) g) fl false))
 (hg:g (i * 258)= .pv .fa) (hw:IntKind.i64.wrap (prod * (Bk s.parts[i]).length)=prod * (Bk s.parts[i]).length) (hnd:(Bk s.parts[i]).Nodup) (hml:(Bk s.parts[i]).length≤256) (hmb:∀ x∈Bk s.parts[i],0≤x∧x≤255) (hne:Bk s.parts[i]≠[]) (hfl:fl≤s.parts.length * 258) (hi2:i≤4611686018427387904):
 Pd (fun r=>r.1= .norm∧r.2.env.get 1= .pv (.rp [P,i64 s.first] 0)∧r.2.env.get 3= .ptr sb 0∧r.2.env.get 4= .pv (i64 (prod * (Bk s.parts[i]).length))∧r.2.env.get 5= .pv (i64 (i - 1))∧r.2.H[sb]? =some (.box [.own oid s.parts.length])∧
  ∃ fl' g',fl'≤s.parts.length * 258∧r.2.H[oid]? =some (.seq 258 true (cellsOf (s.parts.length * 258) g') fl' false)∧bY (g' (i * 258)) r.2.H ((Bk s.parts[i]).map qY)∧(∀ j,j≠i * 258→(∀ x∈Bk s.parts[i],j≠i * 258+1+x.toNat)→g' j=Mv g (i * 258+257) (.pv (i64 prod)) j)∧∀ (k:Nat) x,(Bk s.parts[i])[k]? =some x→g' (i * 258+1+x.toNat)= .pv (.int .u16 ((k:Nat)+1))) (qa (Ca eh 8) Mk ⟨e,H⟩):=by
 obtain⟨v,hv1,hv2,hv3⟩:=hp.get hi
 obtain⟨u,hu,hall⟩:=vF hv3 Ba
 have hso:sb≠oid:=by intro e;subst e;rw[hs] at ho;cases ho
 have hlt:=getElem?_lt hs
 have hlo:=getElem?_lt ho
 generalize hl:s.parts[i]=l at *
 clear hl hp
 generalize hn:s.parts.length=n at *
 have p3:place H 0 (.ptr sb 0)=some (.ptr sb 0):=by simp[place,hs]
 have l3:ta H false 1 (.ptr sb 0)=some (.own oid n):=by simp[ta,hs,Og]
 have ia:wa H 258 (.own oid n) (i:Int)=some (.Mc oid (n * 258) (i * 258)):=by
  simp only[wa,ho,Ag]
  rw[if_pos ⟨trivial,by unfold Ga;omega,by unfold jh;omega⟩]
  simp
 have hH2:(H++[ba.box [.pv .Ye]]).set H.length (.box [.Mc oid (n * 258) (i * 258)])=H++[ba.box [.Mc oid (n * 258) (i * 258)]]:=by
  rw[List.set_append_right _ _ (Nat.le_refl _)];simp
 have st0:Ea (H++[ba.box [.pv .Ye]]) 1 (.ptr H.length 0) (.Mc oid (n * 258) (i * 258))=some (H++[ba.box [.Mc oid (n * 258) (i * 258)]]):=by
  rw[← hH2]
  simp[Ea,AV.cells,AV.one,ga]
 have hb2:(H++[ba.box [.Mc oid (n * 258) (i * 258)]])[H.length]? =some (.box [.Mc oid (n * 258) (i * 258)]):=by simp
 have ho2:(H++[ba.box [.Mc oid (n * 258) (i * 258)]])[oid]? =some (.seq 258 true (cellsOf (n * 258) g) fl false):=by rw[getElem?_push hlo];exact ho
 have hs2:(H++[ba.box [.Mc oid (n * 258) (i * 258)]])[sb]? =some (.box [.own oid n]):=by rw[getElem?_push hlt];exact hs
 generalize H++[ba.box [.Mc oid (n * 258) (i * 258)]]=H2 at *
 have l6:ta H2 false 1 (.ptr H.length 0)=some (.Mc oid (n * 258) (i * 258)):=by simp[ta,hb2,Og]
 have p6:∀ d,place H2 d (.Mc oid (n * 258) (i * 258))=some (.Mc oid (n * 258) (i * 258+d)):=fun d=>Wt ho2 rfl
 have st1:=tA (off:=i * 258+257) (v:= .pv (i64 prod)) ho2 rfl (by omega) rfl rfl
 have hbo:H.length≠oid:=by omega
 have hs3:(H2.set oid (.seq 258 true (cellsOf (n * 258) (Mv g (i * 258+257) (.pv (i64 prod)))) (n * 258) false))[sb]? =some (.box [.own oid n]):=by rw[List.getElem?_set_ne (Ne.symm hso)];exact hs2
 have hb3:(H2.set oid (.seq 258 true (cellsOf (n * 258) (Mv g (i * 258+257) (.pv (i64 prod)))) (n * 258) false))[H.length]? =some (.box [.Mc oid (n * 258) (i * 258)]):=by rw[List.getElem?_set_ne (Ne.symm hbo)];exact hb2
 have ho3:(H2.set oid (.seq 258 true (cellsOf (n * 258) (Mv g (i * 258+257) (.pv (i64 prod)))) (n * 258) false))[oid]? =some (.seq 258 true (cellsOf (n * 258) (Mv g (i * 258+257) (.pv (i64 prod)))) (n * 258) false):=List.getElem?_set_self (getElem?_lt ho2)
 generalize H2.set oid (.seq 258 true (cellsOf (n * 258) (Mv g (i * 258+257) (.pv (i64 prod)))) (n * 258) false)=H3 at *
 have w5:decide ((i:Int)≥0)=true:=decide_eq_true (by omega)
 have r0:∀ H (x y:PV),ta H false 1 (.pv (.rp [x,y] 0))=some (.pv x):=fun H x y=>rfl
 have q0:∀ H (x y:PV),place H 0 (.pv (.rp [x,y] 0))=some (.pv (.rp [x,y] 0)):=fun H x y=>rfl
 have il:∀ H,wa H 1 (.pv P) (i:Int)=some (.pv (.rp v.cells 0)):=by
  intro H
  subst hv2
  have hq:i < ps.length:=getElem?_lt hv1
  simp only[wa]
  rw[if_pos ⟨trivial,by unfold Ga;omega⟩,Int.toNat_natCast,hv1];rfl
 have hvc:v.cells=[v]:=by rcases hv3.is with⟨h,_⟩ | h <;> rw[h] <;> rfl
 rw[hvc] at il
 have r1:∀ H (x:PV),ta H false 1 (.pv (.rp [x] 0))=some (.pv x):=fun H x=>rfl
 have hlp:=mv Ba.2
 have rv:Fy 35 Jk 1 (.Sk 35 [.pv (.rp [u] 0),.pv (.rp [i64 0] 0)])=some ((Bk l).map fun x=>[i64 x]):=by
  have:((Bk l).map fun x=>[i64 x]).all (fS 1)=true:=by
   rw[List.all_eq_true];intro y hy
   obtain⟨x,_,rfl⟩:=List.mem_map.1 hy
   rfl
  simp[Fy,Dd,dE hu Ba.2 (by omega)]
  exact fun _ _=>rfl
 have c39:eh 39=some dm:=rfl
 have hall':=fun H=>(Wz eh 7 39 [AV.pv v,AV.pv (i64 0)] H (f:=dm) rfl).symm.trans (hall H)
 generalize hQ:(fun r:Ex×St=>r.1=Ex.norm∧_)=Q
 simp -implicitDefEqProofs only[SX,sevalprocAttr,Mk,EW,h1,h3,h4,h5,p3,l3,ia,st0,l6,p6,st1,w5,r0,q0,il,r1,c39,hall',rv,rI]
 have hin:=fun (E:Tr) (h6:E.get 6= .ptr H.length 0)=>of_inner (Ca eh 8) (e:=E) h6 (off:=i * 258) (m:=n * 258) (by omega) (Bk l) (es:=[]) hb3 ho3 hmb hnd (.inl ⟨rfl,by rw[jv _ _ (by omega)];exact hg⟩) (by simpa using hml)
 generalize hEE:(Tr.set _ 39 _:Tr)=E
 have e6:E.get 6= .ptr H.length 0:=by rw[← hEE];simp[Tr.aa]
 have e1:E.get 1= .pv (.rp [P,i64 s.first] 0):=by rw[← hEE];simp[Tr.aa,h1]
 have e3:E.get 3= .ptr sb 0:=by rw[← hEE];simp[Tr.aa,h3]
 have e4:E.get 4= .pv (i64 prod):=by rw[← hEE];simp[Tr.aa,h4]
 have e5:E.get 5= .pv (i64 i):=by rw[← hEE];simp[Tr.aa,h5]
 clear hEE
 obtain⟨H4,fl4,g4,q0,q1,q2,q3,q4,q5,q6,q7⟩:=hin E e6
 rw[q1]
 have l64:ta H4 false 1 (.ptr H.length 0)=some (.Mc oid (n * 258) (i * 258)):=by simp[ta,q2,Og]
 have p66:∀ d,place H4 d (.Mc oid (n * 258) (i * 258))=some (.Mc oid (n * 258) (i * 258+d)):=fun d=>Wt q3 rfl
 have l67:=wD (off:=i * 258) q3 rfl (by omega)
 have ln:∀ K,Tb K 0 (g4 (i * 258))=some (Bk l).length:=by
  rcases q4 with⟨h,_⟩ | ⟨tk,_,h,_⟩
  ·simp at h;exact absurd h hne
  ·intro K;rw[h];simp[Tb]
 have w1:IntKind.i64.wrap ((i:Int) - 1)=(i:Int) - 1:=Aa (by omega)
 simp -implicitDefEqProofs only[SX,sevalprocAttr,iV,e6,e1,e3,e4,e5,l64,p66,l67,ln,hw,w1]
 subst hQ
 refine⟨rfl,?_,?_,?_,?_,?_,fl4,g4,q0 (Nat.le_refl _),q3,by simpa using q4,q5,fun k x hk=>by simpa using q6 k x hk⟩ <;> first | exact q7 _ _ hs3 | simp[Tr.aa,e1,e3]
end Go.AM.B1
namespace Go.AM.B1
open Go.AM Go.AM.So
def rA (l:List (Int×Int)) (x:Nat):PV:= .int .u16 (if (kg (x:Int) 0 l).2 then (kg (x:Int) 0 l).1+1 else 0)
def Xo (l:List (Int×Int)):PV:= .lit 1 ((Bk l).map qY)
def ZJ (ls:List (List (Int×Int))) (c:Nat):PV:=
 if c % 258=0 then Xo (ls.getD (c / 258) []) else if c % 258=257 then i64 (La (ls.drop (c / 258+1))) else rA (ls.getD (c / 258) []) (c % 258 - 1)
def HP (ls:List (List (Int×Int))) (i:Nat):PV:= .agg ((List.range 258).map fun k=>ZJ ls (i * 258+k))
def Zj (ls:List (List (Int×Int))):PV:= .rp [.lit 258 ((List.range ls.length).map (HP ls))] 0
def oI (ls:List (List (Int×Int))) (g:Nat→AV) (i:Nat):Prop:=
 (∃ tk,g (i * 258)= .uq tk false 1 ((Bk (ls.getD i [])).map qY))∧(∀ y:Nat,y < 256→g (i * 258+1+y)= .pv (rA (ls.getD i []) y))∧g (i * 258+257)= .pv (i64 (La (ls.drop (i+1))))
def UH (g:Nat→AV) (i:Nat):Prop:=g (i * 258)= .pv .fa∧∀ y:Nat,y < 256→g (i * 258+1+y)= .pv (.int .u16 0)
theorem qN {l:List (Int×Int)} (h:Bd l):Bk l≠[]:=by
 intro e
 have h1:=dz 0 h.2
 rw[e] at h1
 have:=(zg h).1
 simp at h1;omega
theorem uT {l:List (Int×Int)} (h:Bd l):(Bk l).length≤256:=by
 have h1:=dz 0 h.2
 have:=(zg h).2
 omega
theorem bA {l:List (Int×Int)} (h:Bd l):∀ x∈Bk l,0≤x∧x≤255:=by
 intro x hx
 obtain⟨k,hk,rfl⟩:=List.getElem_of_mem hx
 have:=Et (n:=0) h.2 (List.getElem?_eq_getElem hk)
 exact⟨this.2.1,this.2.2.1⟩
theorem PM {l:List (Int×Int)} (h:Bd l):(Bk l).Nodup:=by
 unfold List.Nodup
 rw[List.pairwise_iff_getElem]
 intro i j hi hj hij e
 have h1:=(Et (n:=0) h.2 (List.getElem?_eq_getElem hi)).1
 have h2:=(Et (n:=0) h.2 (List.getElem?_eq_getElem hj)).1
 rw[e,h2] at h1
 injection h1 with h1 _
 omega
theorem gN {l:List (Int×Int)} (h:Bd l) {k:Nat} {x:Int} (hk:(Bk l)[k]? =some x):rA l x.toNat= .int .u16 ((k:Nat)+1):=by
 obtain⟨h1,h2,_⟩:=Et (n:=0) h.2 hk
 unfold rA
 rw[Int.toNat_of_nonneg h2,h1]
 simp
theorem AL {l:List (Int×Int)} (h:Bd l) {y:Nat} (hy:(y:Int) ∉ Bk l):rA l y= .int .u16 0:=by
 unfold rA
 rw[if_neg]
 intro hr
 obtain⟨k,h1,_⟩:=Bu h.2 hr
 exact hy (List.mem_of_getElem? h1)
theorem SV (z:List PV) (n:Nat):(tj z n).length=n * z.length:=by
 induction n with
 |zero=>simp[tj]
 |succ n ih=>rw[tj,List.length_append,List.length_map,ih,Nat.add_mul];omega
theorem rO {z:List PV}:∀ {n i k:Nat} {v:PV},i < n→z[k]? =some v→(tj z n)[i * z.length+k]? =some (.pv v)
 |n+1,0,k,v,_,hk=>by
  have:k < z.length:=getElem?_lt hk
  rw[tj,Nat.zero_mul,Nat.zero_add,List.getElem?_append_left (by simpa using this),List.getElem?_map,hk];rfl
 |n+1,i+1,k,v,hi,hk=>by
  rw[tj,List.getElem?_append_right (by rw[List.length_map,Nat.add_mul];omega),List.length_map,Nat.add_mul,show i * z.length+1 * z.length+k - z.length=i * z.length+k by omega]
  exact rO (by omega) hk
theorem CH (c:List AV):c=cellsOf c.length (fun j=>c.getD j .undef):=by
 apply List.ext_getElem?
 intro j
 by_cases hj:j < c.length
 ·rw[sr _ hj,List.getD_eq_getElem?_getD,List.getElem?_eq_getElem hj];rfl
 ·rw[List.getElem?_eq_none (by omega),List.getElem?_eq_none (by rw[Ag];omega)]
theorem SL {H:List ba} {d:Nat} {f:Nat→PV}:∀ {n:Nat} {g:Nat→AV},(∀ c,c < n→Rb H d (g c)=some (f c))→Pa (Rb H d) (cellsOf n g)=some ((List.range n).map f):=by
 have key:∀ (l:List Nat) (g:Nat→AV),(∀ c∈l,Rb H d (g c)=some (f c))→Pa (Rb H d) (l.map g)=some (l.map f):=by
  intro l g
  induction l with
  |nil=>intro _;rfl
  |cons a l ih=>intro h;rw[List.map_cons,Pa,h a (by simp),Option.bind_some,ih fun c hc=>h c (by simp[hc])];rfl
 intro n g h
 exact key (List.range n) g fun c hc=>h c (List.mem_range.1 hc)
theorem NM {f:Nat→PV} (a n:Nat):(List.range' a n).map f=(List.range n).map fun k=>f (a+k):=by
 rw[List.range'_eq_map_range,List.map_map];rfl
theorem TB {f:Nat→PV} (sz:Nat):∀ (n a:Nat),chunk sz true n ((List.range' a (n * sz)).map f)=(List.range n).map fun i=> .agg ((List.range sz).map fun k=>f (a+(i * sz+k)))
 |0,a=>by simp[chunk]
 |n+1,a=>by
  have e:List.range' a ((n+1) * sz)=List.range' a sz++List.range' (a+sz) (n * sz):=by
   rw[Nat.add_mul,Nat.one_mul,Nat.add_comm,List.range'_append_1]
  have hl:((List.range' a sz).map f).length=sz:=by simp
  rw[e,List.map_append,chunk,if_pos rfl,List.take_left' hl,List.drop_left' hl,TB sz n,List.range_succ_eq_map,List.map_cons,List.map_map,NM]
  congr 1
  ·congr 1;apply List.map_congr_left;intro k _;congr 1;omega
  ·apply List.map_congr_left;intro i _
   simp only[Function.comp]
   congr 1;apply List.map_congr_left;intro k _;congr 1
   rw[Nat.succ_mul];omega
end Go.AM.B1
