/- What functions of the program compute. -/
import Derived.Test.YtijlhblleiaomaaGreatL5
import Derived.Test.YtijlhblleiaomaaGreatL4
import Derived.Test.YtijlhblleiaomaaGreatL1
import Derived.Test.YtijlhblleiaomaaGreatL2
set_option linter.unusedVariables false
set_option linter.unusedSimpArgs false
namespace Go.AM.B1
open Go.AM Go.AM.So
attribute [local irreducible] Ia
abbrev ints(O:List Nat):List PV:=O.map fun (o:Nat)=>aa (Int.ofNat o)
def Ig(f:Nat->Nat->Bool)(O:List Nat)(to:Int):List Nat×Int:=
 if to < 0 then (O,to) else
  (if O.findIdx (fun o=> !f o to.toNat)=O.length then O++[to.toNat] else O,(O.findIdx (fun o=> !f o to.toNat):Int))
theorem uV(H:List fa){id:Nat}{nl:Bool}{O:List Nat}{k:Nat}(hk:k < O.length):Ua H 1 (.uq id nl 1 (ints O)) (k:Int)=some (.pv (.rp [aa (O[k]:Int)] 0)):=by
 simp only[Ua];rw[if_pos (by refine⟨trivial,?_⟩;unfold Ta;simp;omega)];simp[hk,PV.cells]
theorem D3(H:List fa){n:Nat}{f:Nat->Nat->Bool}{k:Nat}(hk:k < n):Ua H 1 (.pv (Lf n f)) (k:Int)=some (.pv (.rp [.lit 1 (Tc n (f k))] 0)):=by
 simp only[Ua,Lf];rw[if_pos (by refine⟨trivial,?_⟩;unfold Ta;simp;omega)];simp[hk,PV.cells]
theorem W8(H:List fa){n:Nat}{f:Nat->Bool}{k:Nat}(hk:k < n):Ua H 1 (.pv (.lit 1 (Tc n f))) (k:Int)=some (.pv (.rp [.bool (f k)] 0)):=by
 simp only[Ua];rw[if_pos (by refine⟨trivial,?_⟩;unfold Ta;rw[El];omega),Uc,TO _ hk];rfl
theorem tO(H:List fa)(x:PV):wa H false 1 (.pv (.rp [x] 0))=some (.pv x):=rfl
abbrev QD(L M:PV)(O:List PV)(k len x:Nat)(to:Int)(m:Int):Tr:=
 (((((((((Tr.lf.set 16 (.pv (aa m))).set 15 (.pv (aa to))).set 14 (.pv (aa x))).set 13 (.own 4 len)).set 12 (.pv (aa k))).set 11 (.ptr 2 0)).set 10 (.uq 1 false 1 O)).set 9 (.pv M)).set 7 (.pv L)).set 2 (.ptr 0 0)
section
variable (call:Ab)(L:PV)(n:Nat)(f:Nat->Nat->Bool)(O:List Nat)(k len x:Nat)(o0 o2 o3 o4:fa)
 (hc:Ha (Fa 5) [o0,.tok 1 O.length false,o2,o3,o4]=some [o0,.tok 1 O.length false,o2,o3,o4]) (hO:∀ o∈O,o < n) (hO2:O.length<=64)
include hc hO hO2
theorem Dae(to:Nat)(me:to < n):
 Ia (fun r=>∃ E,r=(.exit 4,⟨E,[o0,.tok 1 O.length false,o2,o3,o4]⟩)/\E.get 2= .ptr 0 0/\E.get 7= .pv L/\E.get 9= .pv (Lf n f)/\E.get 10= .uq 1 false 1 (ints O)/\E.get 11= .ptr 2 0/\E.get 12= .pv (aa k)/\E.get 13= .own 4 len/\E.get 14= .pv (aa x)/\E.get 15= .pv (aa to)/\E.get 16= .pv (aa (O.findIdx (fun o=> !f o to):Nat)))
  (Mb (Aa (ua call wA) (ta 5 [2,7,9,10,11,12,13,14,15,16])) Ga ⟨QD L (Lf n f) (ints O) k len x to 0,[o0,.tok 1 O.length false,o2,o3,o4]⟩):=by
 have hle:O.findIdx (fun o=> !f o to)<=O.length:=List.findIdx_le_length
 have Cu:(ints O).length=O.length:=by rw[wb]
 refine Bb (We (g:=Aa (ua call wA) (ta 5 [2,7,9,10,11,12,13,14,15,16]))
  (fun m t=>t=⟨QD L (Lf n f) (ints O) k len x to m,[o0,.tok 1 O.length false,o2,o3,o4]⟩)
  (O.findIdx (fun o=> !f o to)) (by unfold Ga;omega) _ rfl ?_ ?_) (fun r h=>h.2)
 ·rintro m t hm rfl
  have vZ:m < O.length:=by omega
  have hf:f O[m] to=true:=by
   have:=List.not_of_lt_findIdx hm
   simpa using this
  have e1:decide ((m:Int) < (O.length:Int))=true:=Qa (by omega);have t2:IntKind.i64.wrap ((m:Int)+1)=((m+1:Nat):Int):=Gb (by omega)
  have i1:=fun H=>uV H (id:=1) (nl:=false) vZ;have i2:=fun H=>D3 H (f:=f) (hO _ (ic vZ));have i3:=fun H=>W8 H (f:=f O[m]) me;rw[hf] at i3;generalize O[m]=o at *;generalize Tc n (f o)=T at *;generalize Lf n f=M at *;generalize ints O=os at *;have d0:(0 < 5)=True:=by simp
  have d1:(1 < 5)=True:=by simp
  have d2:(2 < 5)=True:=by simp
  have d4:(4 < 5)=True:=by simp
  have od:∀ a b c d e:fa,([a,b,c,d,e]:List fa).take 5=[a,b,c,d,e]:=fun a b c d e=>rfl
  generalize hQ:LN _ _ m=Q;simp -implicitDefEqProofs only[SX,sevalprocAttr,wA,Cu,e1,t2,i1,i2,i3,tO,hc,od,d0,d1,d2,d4,ta,Za,AV.cut,Cb,QD];subst hQ;show (_:St)=_;rfl
 ·rintro t rfl
  generalize hN:O.findIdx (fun o=> !f o to)=N at *
  have Oe:∀ E:Tr,E.get 2= .ptr 0 0->E.get 7= .pv L->E.get 9= .pv (Lf n f)->E.get 10= .uq 1 false 1 (ints O)->E.get 11= .ptr 2 0->E.get 12= .pv (aa k)->E.get 13= .own 4 len->E.get 14= .pv (aa x)->E.get 15= .pv (aa to)->E.get 16= .pv (aa N)->
   (Ex.exit 4,(⟨E,[o0,.tok 1 O.length false,o2,o3,o4]⟩:St)).1.stop=true/\∃ E',(Ex.exit 4,(⟨E,[o0,.tok 1 O.length false,o2,o3,o4]⟩:St))=(.exit 4,⟨E',[o0,.tok 1 O.length false,o2,o3,o4]⟩)/\E'.get 2= .ptr 0 0/\E'.get 7= .pv L/\E'.get 9= .pv (Lf n f)/\E'.get 10= .uq 1 false 1 (ints O)/\E'.get 11= .ptr 2 0/\E'.get 12= .pv (aa k)/\E'.get 13= .own 4 len/\E'.get 14= .pv (aa x)/\E'.get 15= .pv (aa to)/\E'.get 16= .pv (aa N):=
   fun E k2 k7 k9 Xg Yg Xj Yj Gn Ty uN=>⟨rfl,E,rfl,k2,k7,k9,Xg,Yg,Xj,Yj,Gn,Ty,uN⟩
  generalize hQ:(fun r:Ex×St=>r.1.stop=true/\_)=Q
  by_cases hlt:N < O.length
  ·have hf:f O[N] to=false:=by
    have:=List.findIdx_getElem (w:=by rw[hN];exact hlt) (p:=fun o=> !f o to) (xs:=O)
    simp only[hN] at this;simpa using this
   have e1:decide ((N:Int) < (O.length:Int))=true:=Qa (by omega);have i1:=fun H=>uV H (id:=1) (nl:=false) hlt;have i2:=fun H=>D3 H (f:=f) (hO _ (ic hlt));have i3:=fun H=>W8 H (f:=f O[N]) me;rw[hf] at i3;generalize O[N]=o at *;generalize Tc n (f o)=T at *;generalize Lf n f=M at *;generalize ints O=os at *;simp -implicitDefEqProofs only[SX,sevalprocAttr,wA,Cu,e1,i1,i2,i3,tO,QD];subst hQ;exact Oe _ (by simp[Tr.na]) (by simp[Tr.na]) (by simp[Tr.na]) (by simp[Tr.na]) (by simp[Tr.na]) (by simp[Tr.na]) (by simp[Tr.na]) (by simp[Tr.na]) (by simp[Tr.na]) (by simp[Tr.na])
  ·have e1:decide ((N:Int) < (O.length:Int))=false:=Ra (by omega)
   generalize Lf n f=M at *;generalize ints O=os at *;simp -implicitDefEqProofs only[SX,sevalprocAttr,wA,Cu,e1,QD];subst hQ;exact Oe _ (by simp[Tr.na]) (by simp[Tr.na]) (by simp[Tr.na]) (by simp[Tr.na]) (by simp[Tr.na]) (by simp[Tr.na]) (by simp[Tr.na]) (by simp[Tr.na]) (by simp[Tr.na]) (by simp[Tr.na])
theorem Paa(E:Tr)(to:Int)(me:to < (n:Int))(g2:E.get 2= .ptr 0 0)(g7:E.get 7= .pv L)(g9:E.get 9= .pv (Lf n f))(g10:E.get 10= .uq 1 false 1 (ints O))(g11:E.get 11= .ptr 2 0)(g12:E.get 12= .pv (aa k))(g13:E.get 13= .own 4 len)(g14:E.get 14= .pv (aa x))(g15:E.get 15= .pv (aa to)):
 Ia (fun r=>∃ E',r=(.norm,⟨E',[o0,.tok 1 (Ig f O to).1.length false,o2,o3,o4]⟩)/\E'.get 2= .ptr 0 0/\E'.get 7= .pv L/\E'.get 9= .pv (Lf n f)/\E'.get 10= .uq 1 false 1 (ints (Ig f O to).1)/\E'.get 11= .ptr 2 0/\E'.get 12= .pv (aa k)/\E'.get 13= .own 4 len/\E'.get 14= .pv (aa x)/\E'.get 15= .pv (aa (Ig f O to).2))
  (ua call QK ⟨E,[o0,.tok 1 O.length false,o2,o3,o4]⟩):=by
 have hR:∀ O' v,Ig f O to=(O',v)->∀ E':Tr,E'.get 2= .ptr 0 0->E'.get 7= .pv L->E'.get 9= .pv (Lf n f)->E'.get 10= .uq 1 false 1 (ints O')->E'.get 11= .ptr 2 0->E'.get 12= .pv (aa k)->E'.get 13= .own 4 len->E'.get 14= .pv (aa x)->E'.get 15= .pv (aa v)->
  ∃ Oi,(Ex.norm,(⟨E',[o0,.tok 1 O'.length false,o2,o3,o4]⟩:St))=(.norm,⟨Oi,[o0,.tok 1 (Ig f O to).1.length false,o2,o3,o4]⟩)/\Oi.get 2= .ptr 0 0/\Oi.get 7= .pv L/\Oi.get 9= .pv (Lf n f)/\Oi.get 10= .uq 1 false 1 (ints (Ig f O to).1)/\Oi.get 11= .ptr 2 0/\Oi.get 12= .pv (aa k)/\Oi.get 13= .own 4 len/\Oi.get 14= .pv (aa x)/\Oi.get 15= .pv (aa (Ig f O to).2):=by
  intro O' v h E' k2 k7 k9 Xg Yg Xj Yj Gn Ty;rw[h];exact⟨E',rfl,k2,k7,k9,Xg,Yg,Xj,Yj,Gn,Ty⟩
 by_cases EE:to < 0
 ·have d1:decide (to>=0)=false:=Ra (by omega)
  have fc:Ig f O to=(O,to):=by unfold Ig;rw[if_pos EE]
  generalize ec:(fun r:Ex×St=>_)=QQ;simp -implicitDefEqProofs only[SP,WP,za,sevalprocAttr,QK,g15,d1];subst ec;exact hR O to fc _ (by simp[Tr.na,g2]) (by simp[Tr.na,g7]) (by simp[Tr.na,g9]) (by simp[Tr.na,g10]) (by simp[Tr.na,g11]) (by simp[Tr.na,g12]) (by simp[Tr.na,g13]) (by simp[Tr.na,g14]) (by simp[Tr.na,g15])
 ·have d1:decide (to>=0)=true:=Qa (by omega)
  obtain⟨t,rfl⟩:∃ t:Nat,to=t:=⟨to.toNat,by omega⟩;have Sp:=Dae call L n f O k len x o0 o2 o3 o4 hc hO hO2 t (by omega);have fc:Ig f O (t:Int)=(if O.findIdx (fun o=> !f o t)=O.length then O++[t] else O,(O.findIdx (fun o=> !f o t):Int)):=by unfold Ig;rw[qa EE,Uc]
  have Cu:(ints O).length=O.length:=by rw[wb]
  generalize O.findIdx (fun o=> !f o t)=N at *
  have d0:(0 < 5)=True:=by simp
  have d1':(1 < 5)=True:=by simp
  have d2:(2 < 5)=True:=by simp
  have d4:(4 < 5)=True:=by simp
  have od:∀ a b c d e:fa,([a,b,c,d,e]:List fa).take 5=[a,b,c,d,e]:=fun a b c d e=>rfl
  have vd:Ud [o0,.tok 1 O.length false,o2,o3,o4] false .uq 1 false 8 (.uq 1 false 1 (ints O)) (.pv (.lit 1 [aa t]))=some (.uq 1 false 1 (ints (O++[t])),[o0,.tok 1 (O.length+1) false,o2,o3,o4]):=by have:=Jo (A:=[o0,.tok 1 O.length false,o2,o3,o4]) (id:=1) (n:=O.length) (sz:=1) (h:= .uq) (nl:=false) (ag:=false) (bytes:=8) (es:=ints O) rfl (by rw[wb]) (by unfold Ac;omega) (aa t);rw[this];simp[ints]
  have Rp:(O++[t]).length=O.length+1:=by simp
  generalize ec:(fun r:Ex×St=>_)=QQ;generalize hM:Lf n f=M at *;generalize hos:ints O=os at *;generalize qaj:ints (O++[t])=os2 at *;simp -implicitDefEqProofs only[SP,WP,za,sevalprocAttr,QK,g2,g7,g9,g10,g11,g12,g13,g14,g15,d1,Oc,hc,od,d0,d1',d2,d4,ta,Za,AV.cut,Cb];simp only[QD,hos] at Sp;refine Bb Sp ?_;rintro r ⟨E2,rfl,k2,k7,k9,Xg,Yg,Xj,Yj,Gn,Ty,uN⟩
  by_cases hN:N=O.length
  ·have e2:((N:Int)==(O.length:Int))=true:=by simp[hN]
   rw[if_pos hN] at fc;simp -implicitDefEqProofs only[SP,WP,za,sevalprocAttr,k2,k7,k9,Xg,Yg,Xj,Yj,Gn,Ty,uN,Cu,e2,vd,mh,AV.Mi,AV.xi];subst ec;rw[<- Rp];exact hR (O++[t]) N fc _ (by simp[Tr.na,k2]) (by simp[Tr.na,k7]) (by simp[Tr.na,k9]) (by simp[Tr.na,qaj]) (by simp[Tr.na,Yg]) (by simp[Tr.na,Xj]) (by simp[Tr.na,Yj]) (by simp[Tr.na,Gn]) (by simp[Tr.na])
  ·have e2:((N:Int)==(O.length:Int))=false:=jj (by omega)
   rw[qa hN] at fc;simp -implicitDefEqProofs only[SP,WP,za,sevalprocAttr,k2,k7,k9,Xg,Yg,Xj,Yj,Gn,Ty,uN,Cu,e2];subst ec;exact hR O N fc _ (by simp[Tr.na,k2]) (by simp[Tr.na,k7]) (by simp[Tr.na,k9]) (by simp[Tr.na,Xg,hos]) (by simp[Tr.na,Yg]) (by simp[Tr.na,Xj]) (by simp[Tr.na,Yj]) (by simp[Tr.na,Gn]) (by simp[Tr.na])
end
attribute [local irreducible] Ia
theorem fae(l:List Oa)(e:Oa)(fl:Nat):Le (l++[e]) fl= .seq 3 true (Ca (Ed l++[e.lo,e.hi,e.to])) fl false:=by
 have he:(l++[e]).isEmpty=false:=by cases l <;> rfl
 rw[Le,he,TA]
theorem MX(l:List Oa)(fl n:Nat):Fa n (Le l fl)=some (Le l fl):=by
 have:(Ca (Ed l)).all (AV.qc n deep)=true:=by
  rw[Df];intro v hv;obtain⟨p,_,rfl⟩:=Re.1 hv
  rfl
 simp[Fa,Le,this]
theorem Saa(call:Ab)(E:Tr)(o0 o1 o2 o3:fa)(x:Nat)(to:Int)(g14:E.get 14= .pv (aa x))(g15:E.get 15= .pv (aa to))(hx:x < 256)(me:to≠ -2)(l:List Oa)(hl:l.length<=256)(fl:Nat)(hfl:fl<=l.length * 3)(g13:E.get 13= .own 4 l.length):
 Ia (fun r=>∃ E' Qd,Qd<=(uf x to l).length * 3/\r=(.norm,⟨E',[o0,o1,o2,o3,Le (uf x to l) Qd]⟩)/\E'.get 13= .own 4 (uf x to l).length/\E'.get 2=E.get 2/\E'.get 7=E.get 7/\E'.get 9=E.get 9/\E'.get 10=E.get 10/\E'.get 11=E.get 11/\E'.get 12=E.get 12/\E'.get 14=E.get 14)
  (ua call Gx ⟨E,[o0,o1,o2,o3,Le l fl]⟩):=by
 rcases zK l with rfl | ⟨l',e,rfl⟩
 ·have:fl=0:=by simpa using hfl
  subst this;refine Bb (Qaa call E o0 o1 o2 o3 x to g14 g15 true g13) ?_;rintro r ⟨E',rfl,Yj,k2,k7,k9,Xg,Yg,Xj,Gn⟩;have hj:=pR (x:=(x:Int)) me;rw[hj];exact⟨E',0,by omega,rfl,Yj,k2,k7,k9,Xg,Yg,Xj,Gn⟩
 ·rw[xK] at *
  have Fi:(l'++[e]).length=l'.length+1:=by simp
  rw[Fi] at hl hfl g13;rw[fae];exact Raa call E o0 o1 o2 o3 x to g14 g15 hx me l' e (by omega) fl hfl g13
theorem AX(x to:Int)(l:List Oa):(uf x to l).length<=l.length+1:=by
 by_cases h:to= -2
 ·subst h;rw[rR];omega
 ·rcases zK l with rfl | ⟨l',e,rfl⟩
  ·rw[pR h];simp
  ·rw[xK]
   by_cases h2:e.to=to/\e.hi=x - 1
   ·obtain⟨rfl,h3⟩:=h2
    rw[qR h h3];simp
   ·rw[RL h h2];simp
def zh(C:List (List Int))(f:Nat->Nat->Bool)(o:Nat)(r:List Nat×List Oa)(x:Nat):List Nat×List Oa:=
 if Fb C o x= -2 then r else ((Ig f r.1 (Fb C o x)).1,uf x (Ig f r.1 (Fb C o x)).2 r.2)
structure Rl(n:Nat)(O:List Nat):Prop where
 nd:O.Nodup
 lt:∀ o∈O,o < n
theorem Rl.len{n:Nat}{O:List Nat}(h:Rl n O):O.length<=n:=by
 have h1:=jU n (O.map fun (o:Nat)=>Int.ofNat o) ?_ ?_
 ·simpa using h1
 ·rw[List.Nodup,List.pairwise_map]
  exact h.nd.imp fun Va he=>Va (Int.ofNat.inj he)
 ·intro o ho
  obtain⟨p,hp,rfl⟩:=Re.1 ho
  have:=h.lt p hp
  constructor
  ·exact Int.natCast_nonneg p
  ·exact Int.ofNat_lt.2 this
theorem VW{n:Nat}{f:Nat->Nat->Bool}(hf:∀ a,f a a=false){O:List Nat}(h:Rl n O){to:Int}(me:to < n):Rl n (Ig f O to).1/\∃ t,(Ig f O to).1=O++t:=by
 unfold Ig
 by_cases h1:to < 0
 ·rw[if_pos h1];exact⟨h,[],by simp⟩
 ·rw[qa h1]
  by_cases h2:O.findIdx (fun o=> !f o to.toNat)=O.length
  ·rw[if_pos h2]
   have Rh:∀ o∈O,f o to.toNat=true:=by
    intro o ho;obtain⟨k,hk,rfl⟩:=uj ho;have:=List.not_of_lt_findIdx (p:=fun o=> !f o to.toNat) (xs:=O) (i:=k) (by omega)
    simpa using this
   refine⟨⟨?_,?_⟩,[to.toNat],rfl⟩
   ·rw[List.nodup_append]
    refine⟨h.nd,by simp,?_⟩;intro a ha b hb;rw[ym] at hb;subst hb;intro he;subst he;have:=Rh _ ha;rw[hf] at this;cases this
   ·intro o ho
    rcases Bd.1 ho with h3 | h3
    ·exact h.lt o h3
    ·rw[ym] at h3;subst h3;omega
  ·rw[qa h2];exact⟨h,[],by simp⟩
theorem Cac{f:Nat->Nat->Bool}{O:List Nat}{to:Int}(h:to≠ -2)(h2: -2<=to):(Ig f O to).2≠ -2:=by
 unfold Ig
 by_cases h1:to < 0
 ·rw[if_pos h1];exact h
 ·rw[qa h1];simp only;omega
abbrev fu(L M:PV)(O:List PV)(k len x:Nat):Tr:=
 (((((((Tr.lf.set 14 (.pv (aa x))).set 13 (.own 4 len)).set 12 (.pv (aa k))).set 11 (.ptr 2 0)).set 10 (.uq 1 false 1 O)).set 9 (.pv M)).set 7 (.pv L)).set 2 (.ptr 0 0)
section
variable (call:Ab){C:List (List Int)}(hC:Rk C)(hge:∀ r∈C,∀ v∈r,-2<=v){f:Nat->Nat->Bool}(hf:∀ a,f a a=false)(k:Nat)(o0 o2 o3:fa)(h0:∀ n,Fa n o0=some o0)(h2:Fa 5 o2=some o2)(h3:∀ n,Fa n o3=some o3)
include hC hge hf h0 h2 h3
omit hf in
theorem Hab{O:List Nat}(hO:Rl C.length O){o:Nat}(hk:O[k]? =some o){l:List Oa}{x:Nat}(hx:x < 256)(hl:l.length<=x){fl:Nat}(hfl:fl<=l.length * 3):
 Ia (fun r=>∃ Qd,Qd<=(zh C f o (O,l) x).2.length * 3/\r=(.norm,⟨fu (.lit 256 (C.map Zb)) (Lf C.length f) (ints (zh C f o (O,l) x).1) k (zh C f o (O,l) x).2.length (x+1),[o0,.tok 1 (zh C f o (O,l) x).1.length false,o2,o3,Le (zh C f o (O,l) x).2 Qd]⟩))
  (Aa (ua call GG) (ta 5 [2,7,9,10,11,12,13,14]) ⟨fu (.lit 256 (C.map Zb)) (Lf C.length f) (ints O) k l.length x,[o0,.tok 1 O.length false,o2,o3,Le l fl]⟩):=by
 have mr:=(Ad.1 hk).1
 have yE:O[k]=o:=(Ad.1 hk).2
 have ho:o < C.length:=by rw[<- yE];exact hO.lt _ (ic mr)
 have RY:O.length<=64:=Lj hO.len hC.sz
 have i1:=fun H=>uV H (id:=1) (nl:=false) mr;rw[yE] at i1;have i2:=fun H=>hC.Nd ho H
 have l2:=fun H=>hC.load ho hx H
 have hv:=(hC.get ho hx).2
 have hv2: -2<=Fb C o x:=hge _ (ic ho) _ (vj (hC.get ho hx).1);have e1:decide ((x:Int) < 256)=true:=Qa (by omega);have hq:Ta (x:Int) 256:=by unfold Ta;omega
 have t1:((x:Int)).toNat=x:=by simp
 have m1:x * 1=x:=by omega
 have z1:0+x=x:=by omega
 have t2:IntKind.i64.wrap ((x:Int)+1)=((x+1:Nat):Int):=Gb (by omega)
 have fc:∀ (m:Nat)(l:List Oa)(fl:Nat),Ha (Fa 5) [o0,.tok 1 m false,o2,o3,Le l fl]=some [o0,.tok 1 m false,o2,o3,Le l fl]:=by intro m l fl;have c1:Fa 5 (.tok 1 m false)=some (.tok 1 m false):=rfl;simp only[Ha,h0,h2,h3,c1,MX,Lc,Vc]
 have od:∀ a b c d e:fa,([a,b,c,d,e]:List fa).take 5=[a,b,c,d,e]:=fun a b c d e=>rfl
 have d0:(0 < 5)=True:=by simp
 have d1:(1 < 5)=True:=by simp
 have d2:(2 < 5)=True:=by simp
 have d4:(4 < 5)=True:=by simp
 have rai:=fun (E:Tr) g2 g7 g9 g10 g11 g12 g13 g14 g15=>Paa call (.lit 256 (C.map Zb)) C.length f O k l.length x o0 o2 o3 (Le l fl) (fc _ _ _) hO.lt RY E (Fb C o x) hv g2 g7 g9 g10 g11 g12 g13 g14 g15
 have su:Fb C o x≠ -2->(Ig f O (Fb C o x)).2≠ -2:=fun h=>Cac h hv2
 have hR:∀ r,zh C f o (O,l) x=r->∀ Qd,Qd<=r.2.length * 3->∀ s:St,s=⟨fu (.lit 256 (C.map Zb)) (Lf C.length f) (ints r.1) k r.2.length (x+1),[o0,.tok 1 r.1.length false,o2,o3,Le r.2 Qd]⟩->
  ∃ Qd,Qd<=(zh C f o (O,l) x).2.length * 3/\(Ex.norm,s)=(.norm,⟨fu (.lit 256 (C.map Zb)) (Lf C.length f) (ints (zh C f o (O,l) x).1) k (zh C f o (O,l) x).2.length (x+1),[o0,.tok 1 (zh C f o (O,l) x).1.length false,o2,o3,Le (zh C f o (O,l) x).2 Qd]⟩):=by
  intro r hr Qd tE s hs;subst hr;exact⟨Qd,tE,by rw[hs]⟩
 have hrx:Fb C o x= -2->zh C f o (O,l) x=(O,l):=fun h=>by unfold zh;rw[if_pos h]
 have Oaj:Fb C o x≠ -2->zh C f o (O,l) x=((Ig f O (Fb C o x)).1,uf x (Ig f O (Fb C o x)).2 l):=fun h=>by unfold zh;rw[qa h]
 generalize ec:(fun r:Ex×St=>_)=QQ;generalize Fb C o x=to at *;generalize hL:(PV.lit 256 (C.map Zb))=L at *;generalize hM:Lf C.length f=M at *
 generalize hoR:C[o].map aa=oR at *
 by_cases me:to= -2
 ·have b1:(to== -2)=true:=by simp[me]
  have CS:=fc O.length l fl
  have Oe:=hR (O,l) (hrx me) fl hfl;generalize hos:ints O=os at *;generalize nS:Le l fl=o4 at *;simp -implicitDefEqProofs only[SP,WP,za,sevalprocAttr,OQ,e1,i1,i2,l2,tO,yq,Sa hq,t1,m1,z1,b1,t2,CS,od,d0,d1,d2,d4,ta,Za,AV.cut,Cb,fu];subst ec;exact Oe _ (by simp only[fu,hos,nS])
 ·have b1:(to== -2)=false:=jj me
  have Uah:=su me;generalize hos:ints O=os at *;generalize nS:Le l fl=o4 at *;simp -implicitDefEqProofs only[SP,WP,za,sevalprocAttr,OQ,e1,i1,i2,l2,tO,yq,Sa hq,t1,m1,z1,b1,fu];refine Bb (rai _ ?_ ?_ ?_ ?_ ?_ ?_ ?_ ?_ ?_) ?_
  any_goals (simp[Tr.na];done)
  rintro r ⟨E2,rfl,k2,k7,k9,Xg,Yg,Xj,Yj,Gn,Ty⟩;simp -implicitDefEqProofs only[SP,WP,za,sevalprocAttr];subst nS;refine Bb (Saa call E2 o0 _ o2 o3 x _ Gn Ty hx Uah l (by omega) fl hfl Yj) ?_;rintro r ⟨E3,Qd,tE,rfl,j13,j2,j7,j9,K1,L1,M1,N1⟩;rw[k2] at j2;rw[k7] at j7;rw[k9] at j9;rw[Xg] at K1;rw[Yg] at L1;rw[Xj] at M1;rw[Gn] at N1;have CS:=fc (Ig f O to).1.length (uf x (Ig f O to).2 l) Qd
  have Oe:=hR _ (Oaj me) Qd tE;simp only at Oe;generalize (Ig f O to).1.length=n1 at *
  generalize Pat:ints (Ig f O to).1=os1 at *
  generalize (uf x (Ig f O to).2 l).length=n2 at *
  generalize Le (uf x (Ig f O to).2 l) Qd=o4 at *;simp -implicitDefEqProofs only[SP,WP,za,sevalprocAttr,j2,j7,j9,K1,L1,M1,j13,N1,t2,CS,od,d0,d1,d2,d4,ta,Za,AV.cut,Cb];subst ec;exact Oe _ rfl
end
attribute [local irreducible] Ia
def Hf(C:List (List Int))(f:Nat->Nat->Bool)(o:Nat)(O:List Nat)(x:Nat):List Nat×List Oa:=(List.range x).foldl (zh C f o) (O,[])
theorem JU(C:List (List Int))(f:Nat->Nat->Bool)(o:Nat)(O:List Nat)(x:Nat):Hf C f o O (x+1)=zh C f o (Hf C f o O x) x:=by
 unfold Hf;rw[jv,PC];rfl
theorem Fao{C:List (List Int)}(hC:Rk C){f:Nat->Nat->Bool}(hf:∀ a,f a a=false){o:Nat}(ho:o < C.length){r:List Nat×List Oa}(h:Rl C.length r.1){x:Nat}(hx:x < 256):
 Rl C.length (zh C f o r x).1/\(∃ t,(zh C f o r x).1=r.1++t)/\(zh C f o r x).2.length<=r.2.length+1:=by
 unfold zh
 split
 ·exact⟨h,⟨[],by simp⟩,by omega⟩
 ·obtain⟨h1,h2⟩:=VW hf h (hC.get ho hx).2
  exact⟨h1,h2,AX _ _ _⟩
theorem IU{C:List (List Int)}(hC:Rk C){f:Nat->Nat->Bool}(hf:∀ a,f a a=false){o:Nat}(ho:o < C.length){O:List Nat}(h:Rl C.length O):∀ (x:Nat),x<=256->
 Rl C.length (Hf C f o O x).1/\(∃ t,(Hf C f o O x).1=O++t)/\(Hf C f o O x).2.length<=x
 |0,_=>⟨h,⟨[],by simp[Hf]⟩,by simp[Hf]⟩
 |x+1,hx=>by obtain⟨h1,⟨t,h2⟩,h3⟩:=IU hC hf ho h x (by omega);obtain⟨k1,⟨t',k2⟩,k3⟩:=Fao hC hf ho h1 (x:=x) (by omega);rw[JU];exact⟨k1,⟨t++t',by rw[k2,h2,Ij]⟩,by omega⟩
def Om(C:List (List Int))(f:Nat->Nat->Bool):Nat->List Nat×List (List Oa)->List Nat×List (List Oa)
 |0,r=>r
 |k+1,r=>match r.1[r.2.length]? with
  |none=>r
  |some o=>Om C f k ((Hf C f o r.1 256).1,r.2++[(Hf C f o r.1 256).2])
theorem V6{C:List (List Int)}{f:Nat->Nat->Bool}{k:Nat}{r:List Nat×List (List Oa)}(h:r.1[r.2.length]? =none):Om C f k r=r:=by
 cases k with
 |zero=>rfl
 |succ k=>rw[Om,h]
theorem W6{C:List (List Int)}{f:Nat->Nat->Bool}{k:Nat}{r:List Nat×List (List Oa)}{o:Nat}(h:r.1[r.2.length]? =some o):Om C f (k+1) r=Om C f k ((Hf C f o r.1 256).1,r.2++[(Hf C f o r.1 256).2]):=by
 rw[Om,h]
section
variable (call:Ab){C:List (List Int)}(hC:Rk C)(hge:∀ r∈C,∀ v∈r,-2<=v){f:Nat->Nat->Bool}(hf:∀ a,f a a=false)
include hC hge hf
theorem Gab(k:Nat)(o0 o2 o3:fa)(h0:∀ n,Fa n o0=some o0)(h2:Fa 5 o2=some o2)(h3:∀ n,Fa n o3=some o3){O:List Nat}(hO:Rl C.length O){o:Nat}(hk:O[k]? =some o):
 Ia (fun r=>∃ E fl,r=(.exit 2,⟨E,[o0,.tok 1 (Hf C f o O 256).1.length false,o2,o3,Le (Hf C f o O 256).2 fl]⟩)/\E.get 2= .ptr 0 0/\E.get 7= .pv (.lit 256 (C.map Zb))/\E.get 9= .pv (Lf C.length f)/\E.get 10= .uq 1 false 1 (ints (Hf C f o O 256).1)/\E.get 11= .ptr 2 0/\E.get 12= .pv (aa k)/\E.get 13= .own 4 (Hf C f o O 256).2.length)
  (Mb (Aa (ua call GG) (ta 5 [2,7,9,10,11,12,13,14])) Ga ⟨fu (.lit 256 (C.map Zb)) (Lf C.length f) (ints O) k 0 0,[o0,.tok 1 O.length false,o2,o3,Le [] 0]⟩):=by
 have mr:=(Ad.1 hk).1
 have yE:O[k]=o:=(Ad.1 hk).2
 have ho:o < C.length:=by rw[<- yE];exact hO.lt _ (ic mr)
 refine Bb (We (g:=Aa (ua call GG) (ta 5 [2,7,9,10,11,12,13,14]))
  (fun x t=>∃ fl,fl<=(Hf C f o O x).2.length * 3/\t=⟨fu (.lit 256 (C.map Zb)) (Lf C.length f) (ints (Hf C f o O x).1) k (Hf C f o O x).2.length x,[o0,.tok 1 (Hf C f o O x).1.length false,o2,o3,Le (Hf C f o O x).2 fl]⟩)
  256 (by unfold Ga;omega) _ ⟨0,by omega,rfl⟩ ?_ ?_) (fun r h=>h.2)
 ·rintro x t hx ⟨fl,hfl,rfl⟩
  obtain⟨q1,⟨t,q2⟩,q3⟩:=IU hC hf ho hO x (by omega);have vo:(Hf C f o O x).1[k]? =some o:=by rw[q2,Kc mr];exact hk
  refine Bb (Hab call hC hge k o0 o2 o3 h0 h2 h3 q1 vo hx q3 hfl) ?_;rintro r ⟨Qd,tE,rfl⟩;have:zh C f o ((Hf C f o O x).1,(Hf C f o O x).2) x=Hf C f o O (x+1):=(JU C f o O x).symm
  rw[this] at tE ⊢;exact⟨Qd,tE,rfl⟩
 ·rintro t ⟨fl,hfl,rfl⟩
  have e1:decide (((256:Nat):Int) < 256)=false:=Ra (by omega);generalize Hf C f o O 256=r at *;have Oe:∀ E:Tr,E.get 2= .ptr 0 0->E.get 7= .pv (.lit 256 (C.map Zb))->E.get 9= .pv (Lf C.length f)->E.get 10= .uq 1 false 1 (ints r.1)->E.get 11= .ptr 2 0->E.get 12= .pv (aa k)->E.get 13= .own 4 r.2.length->
   (Ex.exit 2,(⟨E,[o0,.tok 1 r.1.length false,o2,o3,Le r.2 fl]⟩:St)).1.stop=true/\∃ E' Qd,(Ex.exit 2,(⟨E,[o0,.tok 1 r.1.length false,o2,o3,Le r.2 fl]⟩:St))=(.exit 2,⟨E',[o0,.tok 1 r.1.length false,o2,o3,Le r.2 Qd]⟩)/\E'.get 2= .ptr 0 0/\E'.get 7= .pv (.lit 256 (C.map Zb))/\E'.get 9= .pv (Lf C.length f)/\E'.get 10= .uq 1 false 1 (ints r.1)/\E'.get 11= .ptr 2 0/\E'.get 12= .pv (aa k)/\E'.get 13= .own 4 r.2.length:=
   fun E k2 k7 k9 Xg Yg Xj Yj=>⟨rfl,E,fl,rfl,k2,k7,k9,Xg,Yg,Xj,Yj⟩
  generalize hQ:(fun r:Ex×St=>r.1.stop=true/\_)=Q;generalize (PV.lit 256 (C.map Zb))=L at *;generalize Lf C.length f=M at *
  generalize ints r.1=os at *
  generalize Le r.2 fl=o4 at *
  simp -implicitDefEqProofs only[SX,sevalprocAttr,OQ,e1,fu];subst hQ;exact Oe _ (by simp[Tr.na]) (by simp[Tr.na]) (by simp[Tr.na]) (by simp[Tr.na]) (by simp[Tr.na]) (by simp[Tr.na]) (by simp[Tr.na])
end
abbrev NA(L M:PV)(O:List PV)(k:Nat):Tr:=
 (((((Tr.lf.set 12 (.pv (aa k))).set 11 (.ptr 2 0)).set 10 (.uq 1 false 1 O)).set 9 (.pv M)).set 7 (.pv L)).set 2 (.ptr 0 0)
abbrev lh(nl:Bool)(es:List PV):fa:= .box [.uq 3 nl 1 es]
abbrev Li(out:List (List Oa)):List PV:=out.map ae
section
variable (call:Ab){C:List (List Int)}(hC:Rk C)(hge:∀ r∈C,∀ v∈r,-2<=v){f:Nat->Nat->Bool}(hf:∀ a,f a a=false)
include hC hge hf
theorem Fab(o0:fa)(h0:∀ n,Fa n o0=some o0){O:List Nat}(hO:Rl C.length O){out:List (List Oa)}{o:Nat}(hk:O[out.length]? =some o):
 Ia (fun r=>r=(.norm,⟨NA (.lit 256 (C.map Zb)) (Lf C.length f) (ints (Hf C f o O 256).1) (out.length+1),[o0,.tok 1 (Hf C f o O 256).1.length false,lh false (Li (out++[(Hf C f o O 256).2])),.tok 1 (out.length+1) false]⟩))
  (Aa (ua call vA) (ta 4 [2,7,9,10,11,12]) ⟨NA (.lit 256 (C.map Zb)) (Lf C.length f) (ints O) out.length,[o0,.tok 1 O.length false,lh out.isEmpty (Li out),.tok 1 out.length out.isEmpty]⟩):=by
 have mr:=(Ad.1 hk).1
 have yE:O[out.length]=o:=(Ad.1 hk).2
 have RY:O.length<=64:=Lj hO.len hC.sz
 have ho:o < C.length:=by rw[<- yE];exact hO.lt _ (ic mr)
 have Cu:(ints O).length=O.length:=by rw[wb]
 have sg:(Li out).length=out.length:=by rw[wb]
 have e1:decide ((out.length:Int) < (O.length:Int))=true:=Qa (by omega);have t2:IntKind.i64.wrap ((out.length:Int)+1)=((out.length+1:Nat):Int):=Gb (by omega)
 have hc2:∀ nl es,Fa 5 (lh nl es)=some (lh nl es):=fun nl es=>rfl;have Fi:=Gab call hC hge hf out.length o0 (lh out.isEmpty (Li out)) (.tok 1 out.length out.isEmpty) h0 (hc2 _ _) (fun n=>rfl) hO hk
 have Rs:∀ (m:Nat)(nl:Bool)(es:List PV)(n:Nat)(l:List Oa)(fl:Nat),Ha (Fa 5) [o0,.tok 1 m false,lh nl es,.tok 1 n nl,Le l fl]=some [o0,.tok 1 m false,lh nl es,.tok 1 n nl,Le l fl]:=by intro m nl es n l fl;have c1:∀ m nl,Fa 5 (.tok 1 m nl)=some (.tok 1 m nl):=fun m nl=>rfl;simp only[Ha,h0,hc2,c1,MX,Lc,Vc]
 have Kah:∀ nl es,Fa 4 (lh nl es)=some (lh nl es):=fun nl es=>rfl;have iB:∀ (m:Nat)(nl:Bool)(es:List PV)(n:Nat),Ha (Fa 4) [o0,.tok 1 m false,lh nl es,.tok 1 n nl]=some [o0,.tok 1 m false,lh nl es,.tok 1 n nl]:=by intro m nl es n;have c1:∀ m nl,Fa 4 (.tok 1 m nl)=some (.tok 1 m nl):=fun m nl=>rfl;simp only[Ha,h0,Kah,c1,Lc,Vc]
 have hez:fa.seq 3 true [] 0 true=Le [] 0:=rfl
 have Iu:∀ a b c d e:fa,([a,b,c,d,e]:List fa).take 5=[a,b,c,d,e]:=fun a b c d e=>rfl
 have FB:∀ a b c d e:fa,([a,b,c,d,e]:List fa).take 4=[a,b,c,d]:=fun a b c d e=>rfl
 have d50:(0 < 5)=True:=by simp
 have d51:(1 < 5)=True:=by simp
 have d52:(2 < 5)=True:=by simp
 have d54:(4 < 5)=True:=by simp
 have d40:(0 < 4)=True:=by simp
 have d41:(1 < 4)=True:=by simp
 have d42:(2 < 4)=True:=by simp
 have g3:(0 < 3)=True:=by simp
 generalize hr:Hf C f o O 256=r at *;obtain⟨O',l⟩:=r;simp only at Fi ⊢;have Lh:∀ (E:Tr)(fl:Nat)(a b c d:fa),E.get 13= .own 4 l.length->Af (.freeze 13) ⟨E,[a,b,c,d,Le l fl]⟩=some ⟨E.set 13 (.pv (ae l)),[a,b,c,d,.dead]⟩:=by
  intro E fl a b c d h;have h1:l.length * 3=(Ca (Ed l)).length:=by rw[qe,iu]
  simp only[Af,h,Jj,Kj,Le];rw[if_pos ⟨h1,rfl⟩,mv,mv,mv,mv,Qo];cases hl:l with
  |nil=>rfl
  |cons e l'=>
   rw[<- hl];have:l.isEmpty=false:=by rw[hl];rfl
   rw[this];simp only[Sc,if_false];have h2:bd (Ca (Ed l))=some ((Ed l).map aa):=by rw[vF,Sk]
   rw[h2,Vc,YQ,ae,this];rfl
 have xc:∀ (a b c d:fa) nl es,place [a,b,lh nl es,c,d] 0 (.ptr 2 0)=some (.ptr 2 0):=fun a b c d nl es=>rfl;have vB:∀ (a b c d:fa) nl es,wa [a,b,lh nl es,c,d] false 1 (.ptr 2 0)=some (.uq 3 nl 1 es):=fun a b c d nl es=>rfl;have zc:∀ (a b c d:fa) nl nl' es es',Db [a,b,lh nl es,c,d] 1 (.ptr 2 0) (.uq 3 nl' 1 es')=some [a,b,lh nl' es',c,d]:=fun a b c d nl nl' es es'=>rfl;have vd:Ud [o0,.tok 1 O'.length false,lh out.isEmpty (Li out),.tok 1 out.length out.isEmpty,.dead] false .uq 1 false 24 (.uq 3 out.isEmpty 1 (Li out)) (.pv (.lit 1 [ae l]))=some (.uq 3 false 1 (Li (out++[l])),[o0,.tok 1 O'.length false,lh out.isEmpty (Li out),.tok 1 (out.length+1) false,.dead]):=by
  have:=Jo (A:=[o0,.tok 1 O'.length false,lh out.isEmpty (Li out),.tok 1 out.length out.isEmpty,.dead]) (id:=3) (n:=out.length) (sz:=1) (h:= .uq) (nl:=out.isEmpty) (ag:=false) (bytes:=24) (es:=Li out) rfl sg.symm (by unfold Ac;omega) (ae l)
  rw[this];simp[Li]
 have mf:(AV.pv (ae l)).one=true:=by unfold ae;split <;> rfl
 have Vah:(AV.pv (ae l)).cells=[.pv (ae l)]:=by unfold ae;split <;> rfl
 have Ys:(AV.pv (ae l)).Mi= .pv (ae l):=by unfold ae;split <;> rfl
 have Du:(ae l).cells=[ae l]:=by unfold ae;split <;> rfl
 have aai:=Rs O.length out.isEmpty (Li out) out.length [] 0
 have Zah:=iB O'.length false (Li (out++[l])) (out.length+1)
 generalize ae l=el at *;generalize ec:(fun r:Ex×St=>_)=QQ;generalize hL:(PV.lit 256 (C.map Zb))=L at *;generalize hM:Lf C.length f=M at *
 generalize hos:ints O=os at *;generalize Oat:ints O'=eF at *;generalize hou:Li out=ou at *;generalize Tat:Li (out++[l])=ou' at *;generalize hzb:Le [] 0=zb at *;generalize hob:lh out.isEmpty ou=ob at *
 simp -implicitDefEqProofs only[SP,WP,za,sevalprocAttr,vA,Cu,e1,Af,g3,hez,Oc,aai,Iu,d50,d51,d52,d54,ta,Za,AV.cut,Cb,NA];refine Bb Fi ?_;rintro r ⟨E,fl,rfl,k2,k7,k9,Xg,Yg,Xj,Yj⟩;have xai:=Lh E fl o0 (.tok 1 O'.length false) ob (.tok 1 out.length out.isEmpty) Yj;subst hob;simp -implicitDefEqProofs only[SP,WP,za,sevalprocAttr,xai,k2,k7,k9,Xg,Yg,Xj,xc,vB,vd,zc,mh,mf,Vah,Ys,Du,t2,Zah,FB,d40,d41,d42,ta,Za,AV.cut,Cb];subst ec;rfl
end
theorem w9(Wa:List Int):∀ (xs:List Nat)(r:List Int×List Int),xf Wa xs r=xs.foldl (fun r x=>Bh x (Wa.getD x 0) r) r
 | [],r=>rfl
 |x::xs,r=>by rw[xf,w9 Wa xs,zx]
theorem CX(row:List Int):∀ (xs:List Nat)(l:List Oa),qh row xs l=xs.foldl (fun l (x:Nat)=>uf x (row.getD x 0) l) l
 | [],l=>rfl
 |x::xs,l=>by rw[qh,CX row xs,zx]
theorem foldl_congr{α β:Type}{f g:β->α->β}:∀ (l:List α)(b:β),(∀ b,∀ a∈l,f b a=g b a)->l.foldl f b=l.foldl g b
 | [],b,_=>rfl
 |a::l,b,h=>by rw[zx,zx,h b a (by simp)];exact foldl_congr l _ fun b a' ha=>h b a' (by simp[ha])
theorem Q0{v:Int}{co:Nat->Int}{p:Nat->Bool}:∀ (O:List Nat)(k:Nat),(∀ o∈O,(v=co o↔p o=true))->
 Wj v (O.map co) k=if O.findIdx p < O.length then some (k+O.findIdx p) else none
 | [],k,_=>by simp[Wj]
 |o::O,k,h=>by
  rw[Pf,Wj,List.findIdx_cons];have ho:=h o (by simp)
  by_cases hp:p o=true
  ·rw[if_pos (ho.2 hp),hp];simp
  ·have bl:p o=false:=by simpa using hp
   rw[qa fun e=>hp (ho.1 e),bl,Q0 O (k+1) fun o' Xs=>h o' (by simp[Xs])];simp only[cond_false,Td]
   by_cases hlt:O.findIdx p < O.length
   ·rw[if_pos hlt,if_pos (by omega)];congr 1;omega
   ·rw[qa hlt,qa (by omega)]
def co(C:List (List Int))(o:Nat):Int:=if o=0 then 0 else cls C o
section
variable {ss:List ya}{ma:List Al}{C:List (List Int)}(ga:uc ss)(wc:Ee ss)(W:og ss ma C)(hl:C.length=ma.length)
 {f:Nat->Nat->Bool} (hf:∀ a,f a a=false) (hK:∀ i j,i < C.length->j < C.length->(f i j=false↔cls C i=cls C j))
include ga wc W hl hf hK
omit hf hK in
theorem ZW{t:Nat}(h0:0 < t)(ht:t < C.length):cls C t≠0:=by
 intro h;have h1:=(W.Kn hl).Uy ht
 have h2:(eg C.length C.flatten).Ob.getD t 0=0:=h
 rw[h2] at h1;exact W.jY ga wc hl h0 ht (((W.Kn hl).L2 (by omega) ht).2 h1.2.2)
omit ga wc hf hK in
theorem KL{o x:Nat}(ho:o < C.length)(hx:x < 256):(Kb (eg C.length C.flatten).C (co C o).toNat).getD x 0=Yi C o x:=by
 rw[<- W.KD hl ho hx];unfold co
 by_cases h:o=0
 ·rw[if_pos h,h];rfl
 ·rw[qa h]
  have:=((W.Kn hl).Uy ho).2.2
  unfold cls;rw[this]
omit hf in
theorem Hap{O:List Nat}(hO:Rl C.length O){t:Nat}(h0:0 < t)(ht:t < C.length):Wj (cls C t) (O.map (co C)) 0=if O.findIdx (fun o=> !f o t) < O.length then some (O.findIdx (fun o=> !f o t)) else none:=by
 rw[Q0 (p:=fun o=> !f o t)]
 ·simp
 ·intro o ho
  have ew:=hO.lt o ho
  unfold co
  by_cases hz:o=0
  ·subst hz
   rw[if_pos rfl];constructor
   ·intro h;exact absurd h (ZW ga wc W hl h0 ht)
   ·intro h
    have:f 0 t=false:=by simpa using h
    exact absurd ((hK 0 t (by omega) ht).1 this) (W.jY ga wc hl h0 ht)
  ·rw[qa hz]
   have:=hK o t ew ht;constructor
   ·intro h;have:=this.2 h.symm;simp[this]
   ·intro h;exact (this.1 (by simpa using h)).symm
structure OJ(C:List (List Int))(o:Nat)(x:Nat)(rt:List Int×List Int)(rr:List Nat×List Oa):Prop where
 ord:Rl C.length rr.1
 fst:rt.1=rr.1.map (co C)
 len:rt.2.length=256
 rest:∀ y,x<=y->y < 256->rt.2.getD y 0=Yi C o y
 BX:rr.2=(List.range x).foldl (fun l (y:Nat)=>uf y (rt.2.getD y 0) l) []
theorem uab{o x:Nat}(ho:o < C.length)(hx:x < 256){rt:List Int×List Int}{rr:List Nat×List Oa}(h:OJ C o x rt rr):OJ C o (x+1) (Bh x (Yi C o x) rt) (zh C f o rr x):=by
 have hbd:=W.bound hl ho hx
 have nB:=h.rest x (gb _) hx
 have TS:∀ (row:List Int)(l:List Oa),(∀ y,y≠x->row.getD y 0=rt.2.getD y 0)->l=uf x (row.getD x 0) rr.2->l=(List.range (x+1)).foldl (fun l (y:Nat)=>uf y (row.getD y 0) l) []:=by
  intro row l h1 h2;rw[jv,PC,h2,h.BX];show uf x _ _=uf x _ _
  congr 1
  refine foldl_congr _ _ fun b a ha=> ?_;have:a < x:=by simpa using ha
  rw[h1 a (by omega)]
 by_cases EE:Fb C o x < 0
 ·have hn:Yi C o x=Fb C o x:=by unfold Yi;rw[qa (by omega)]
  have ht:Bh x (Yi C o x) rt=rt:=by unfold Bh;rw[if_pos (by omega)]
  rw[ht];have Zp:(zh C f o rr x).1=rr.1:=by
   unfold zh Ig
   split
   ·rfl
   ·first | rfl | rw[if_pos EE]
  have zo:(zh C f o rr x).2=uf x (rt.2.getD x 0) rr.2:=by
   rw[nB,hn];unfold zh Ig
   split
   ·next h2=>rw[h2,rR]
   ·first | rfl | rw[if_pos EE]
  exact⟨by rw[Zp];exact h.ord,by rw[Zp];exact h.fst,h.len,fun y h1 h2=>h.rest y (by omega) h2,TS _ _ (fun _ _=>rfl) zo⟩
 ·obtain⟨t,ht⟩:∃ t:Nat,Fb C o x=t:=⟨(Fb C o x).toNat,by omega⟩
  have wat:=W.MD hl ho hx (by omega)
  have h0:0 < t:=by omega
  have YZ:t < C.length:=by omega
  have hn:Yi C o x=cls C t:=by unfold Yi;rw[if_pos (by omega),ht,Uc]
  have hnn:=W.bR hl YZ
  have mN:=Hap ga wc W hl hK h.ord h0 YZ
  have hrf:zh C f o rr x=(if rr.1.findIdx (fun o=> !f o t)=rr.1.length then rr.1++[t] else rr.1,uf x (rr.1.findIdx (fun o=> !f o t):Int) rr.2):=by unfold zh Ig;rw[qa (by omega),qa EE,ht,Uc]
  have ew:=(VW hf h.ord (to:=(t:Int)) (by omega)).1
  have fc:(Ig f rr.1 (t:Int)).1=if rr.1.findIdx (fun o=> !f o t)=rr.1.length then rr.1++[t] else rr.1:=by unfold Ig;rw[qa (by omega),Uc]
  rw[fc] at ew;have hle:rr.1.findIdx (fun o=> !f o t)<=rr.1.length:=List.findIdx_le_length
  rw[hrf];have Cj:∀ v:Int,(∀ y,y≠x->(rt.2.set x v).getD y 0=rt.2.getD y 0)/\(rt.2.set x v).getD x 0=v:=by
   intro v;refine⟨fun y hy=> ?_,?_⟩
   ·rw[sf,ze (tf hy),<-sf]
   ·rw[sf,Of (by rw[h.len];exact hx)];rfl
  by_cases hlt:rr.1.findIdx (fun o=> !f o t) < rr.1.length
  ·rw[if_pos hlt] at mN
   have EB:Bh x (Yi C o x) rt=(rt.1,rt.2.set x (rr.1.findIdx (fun o=> !f o t):Int)):=by unfold Bh;rw[hn,qa (by omega),h.fst,mN]
   rw[EB,qa (by omega)];refine⟨h.ord,h.fst,by simp[h.len],fun y h1 h2=> ?_,?_⟩
   ·rw[(Cj _).1 y (by omega)];exact h.rest y (by omega) h2
   ·exact TS _ _ (Cj _).1 (by rw[(Cj _).2])
  ·rw[qa hlt] at mN
   have aw:rr.1.findIdx (fun o=> !f o t)=rr.1.length:=by omega
   have EB:Bh x (Yi C o x) rt=(rt.1++[cls C t],rt.2.set x (rt.1.length:Int)):=by unfold Bh;rw[hn,qa (by omega),h.fst,mN]
   rw[if_pos aw] at ew;rw[EB,if_pos aw];have bN:rt.1.length=rr.1.length:=by rw[h.fst,wb]
   refine⟨ew,?_,by simp[h.len],fun y h1 h2=> ?_,?_⟩
   ·simp only[xm,Pf,gv,h.fst]
    unfold co;rw[qa (by omega:¬t=0)]
   ·rw[(Cj _).1 y (by omega)];exact h.rest y (by omega) h2
   ·exact TS _ _ (Cj _).1 (by rw[(Cj _).2,bN,aw])
theorem sab{o:Nat}(ho:o < C.length){O:List Nat}(hO:Rl C.length O):fj (eg C.length C.flatten).C (co C o) (O.map (co C))=((Hf C f o O 256).1.map (co C),(fj (eg C.length C.flatten).C (co C o) (O.map (co C))).2)/\
 fh (fj (eg C.length C.flatten).C (co C o) (O.map (co C))).2=(Hf C f o O 256).2/\Rl C.length (Hf C f o O 256).1:=by
 have Ui:(Kb (eg C.length C.flatten).C (co C o).toNat).length=256:=by
  refine xq (W.Kn hl).hC ?_
  unfold co
  split
  ·simp;omega
  ·have:=(W.Kn hl).Uy ho
   unfold cls;omega
 have key:∀ x,x<=256->OJ C o x ((List.range x).foldl (fun r x=>Bh x ((Kb (eg C.length C.flatten).C (co C o).toNat).getD x 0) r) (O.map (co C),Kb (eg C.length C.flatten).C (co C o).toNat)) (Hf C f o O x):=by
  intro x
  induction x with
  |zero=>intro _;exact⟨hO,rfl,Ui,fun y _ hy=>KL W hl ho hy,rfl⟩
  |succ x ih=>
   intro hx;have h1:=uab ga wc W hl hf hK ho (show x < 256 by omega) (ih (by omega));rw[JU,jv,PC];have h2:(Kb (eg C.length C.flatten).C (co C o).toNat).getD x 0=Yi C o x:=KL W hl ho (by omega)
   show OJ C o (x+1) (Bh x ((Kb (eg C.length C.flatten).C (co C o).toNat).getD x 0) _) _;rw[h2];exact h1
 have h:=key 256 (gb _);unfold fj;rw[w9];refine⟨?_,?_,h.ord⟩
 ·rw[<- h.fst]
 ·rw[fh,CX];exact h.BX.symm
theorem rW:∀ (k:Nat)(O:List Nat)(out:List (List Oa)),Rl C.length O->gk (eg C.length C.flatten).C k (O.map (co C),out)=((Om C f k (O,out)).1.map (co C),(Om C f k (O,out)).2)
 |0,O,out,_=>rfl
 |k+1,O,out,hO=>by
  cases ho:O[out.length]? with
  |none=>
   have h1:(O.map (co C))[out.length]? =none:=by rw[Gd,ho];rfl
   rw[zJ h1,V6 (r:=(O,out)) ho]
  |some o=>
   have h1:(O.map (co C))[out.length]? =some (co C o):=by rw[Gd,ho];rfl
   have ew:=hO.lt o (vj ho)
   obtain⟨q1,q2,q3⟩:=sab ga wc W hl hf hK ew hO;rw[VO (r:=(O.map (co C),out)) h1,W6 (r:=(O,out)) ho,q2];have q4:(fj (eg C.length C.flatten).C (co C o) (O.map (co C))).1=(Hf C f o O 256).1.map (co C):=by rw[q1]
   simp only[q4];exact rW k _ _ q3
theorem Uar(hn:0 < C.length):Fl (eg C.length C.flatten).C=(Om C f 64 ([0],[])).2:=by
 have h:=rW ga wc W hl hf hK 64 [0] [] ⟨by simp,by simp;exact hn⟩;have h0:([0]:List Nat).map (co C)=[0]:=rfl
 unfold Fl;rw[<- h0,h]
end
attribute [local irreducible] Ia
section
variable (call:Ab){C:List (List Int)}(hC:Rk C)(hge:∀ r∈C,∀ v∈r,-2<=v){f:Nat->Nat->Bool}(hf:∀ a,f a a=false)
include hC hge hf
theorem Eab(hn:0 < C.length)(o0:fa)(h0:∀ n,Fa n o0=some o0):
 Ia (fun r=>∃ E O,r=(.exit 0,⟨E,[o0,.tok 1 O false,lh (Om C f 64 ([0],[])).2.isEmpty (Li (Om C f 64 ([0],[])).2),.tok 1 (Om C f 64 ([0],[])).2.length (Om C f 64 ([0],[])).2.isEmpty]⟩)/\E.get 2= .ptr 0 0/\E.get 11= .ptr 2 0/\0 < (Om C f 64 ([0],[])).2.length)
  (Mb (Aa (ua call vA) (ta 4 [2,7,9,10,11,12])) Ga ⟨NA (.lit 256 (C.map Zb)) (Lf C.length f) (ints [0]) 0,[o0,.tok 1 1 false,lh true (Li []),.tok 1 0 true]⟩):=by
 have ib:=hC.sz
 refine Bb (LB (g:=Aa (ua call vA) (ta 4 [2,7,9,10,11,12]))
  (fun k t=>∃ (O:List Nat)(out:List (List Oa)),t=⟨NA (.lit 256 (C.map Zb)) (Lf C.length f) (ints O) out.length,[o0,.tok 1 O.length false,lh out.isEmpty (Li out),.tok 1 out.length out.isEmpty]⟩/\k+out.length=64/\Rl C.length O/\0 < O.length/\out.length<=O.length/\Om C f 64 ([0],[])=Om C f k (O,out))
  Ga 64 _ (by unfold Ga;omega) ⟨[0],[],rfl,rfl,⟨by simp,by simp;exact hn⟩,by simp,by simp,rfl⟩ ?_) (fun r h=>h.2)
 rintro k t ⟨O,out,rfl,hk,hO,th,hle,hs⟩;have hOl:=hO.len
 cases ho:O[out.length]? with
 |some o=>
  have hlt:=(Ad.1 ho).1
  obtain⟨k',rfl⟩:∃ k',k=k'+1:=⟨k - 1,by omega⟩;have ew:=hO.lt o (vj ho)
  obtain⟨q1,⟨t,q2⟩,_⟩:=IU hC hf ew hO 256 (gb _);refine Bb (Fab call hC hge hf o0 h0 hO ho) ?_;rintro r rfl;have Bk:(out++[(Hf C f o O 256).2]).isEmpty=false:=by cases out <;> rfl
  have sg:(out++[(Hf C f o O 256).2]).length=out.length+1:=by simp
  refine⟨k',by omega,(Hf C f o O 256).1,out++[(Hf C f o O 256).2],by rw[Bk,sg],by rw[sg];omega,q1,?_,?_,?_⟩
  ·rw[q2,Pc];omega
  ·rw[sg,q2,Pc];omega
  ·rw[hs,W6 (r:=(O,out)) ho]
 |none=>
  have Aat:O.length<=out.length:=by
   rcases yd out.length O.length with h | h
   ·rw[Rb h] at ho;cases ho
   ·exact h
  rw[V6 (r:=(O,out)) ho] at hs;rw[hs];have e1:decide ((out.length:Int) < (O.length:Int))=false:=Ra (by omega);have Cu:(ints O).length=O.length:=by rw[wb]
  have Aai:Ia (fun r=>∃ E,r=(.exit 0,⟨E,[o0,.tok 1 O.length false,lh out.isEmpty (Li out),.tok 1 out.length out.isEmpty]⟩)/\E.get 2= .ptr 0 0/\E.get 11= .ptr 2 0)
   (Aa (ua call vA) (ta 4 [2,7,9,10,11,12]) ⟨NA (.lit 256 (C.map Zb)) (Lf C.length f) (ints O) out.length,[o0,.tok 1 O.length false,lh out.isEmpty (Li out),.tok 1 out.length out.isEmpty]⟩):=by
   generalize hQ:(fun r:Ex×St=>_)=Q;generalize (PV.lit 256 (C.map Zb))=L at *;generalize Lf C.length f=M at *
   generalize hos:ints O=os at *;generalize lh out.isEmpty (Li out)=ob at *
   simp -implicitDefEqProofs only[SX,sevalprocAttr,-List.reduceReplicate,vA,Cu,e1,NA];subst hQ;exact⟨_,rfl,by simp[Tr.na],by simp[Tr.na]⟩
  refine Bb Aai ?_;rintro r ⟨E,rfl,k2,Yg⟩;exact⟨E,O.length,rfl,k2,Yg,by show 0 < out.length;omega⟩
end
theorem jO{S:PV}{ss:List ya}{es:List PV}(hS:zd S ss es):
 (¬ uc ss->Tm [.agg [S]]=some (.Ba [.agg [.oa],aa 84]))/\
 (uc ss->¬Ee ss->Tm [.agg [S]]=some (.Ba [.agg [.oa],aa 110]))/\
 (uc ss->Ee ss->bf ss=none->Tm [.agg [S]]=some (.Ba [.agg [.oa],aa 130]))/\
 (uc ss->Ee ss->∀ l,bf ss=some l->Tm [.agg [S]]=some (.Ba [.agg [ni l],aa 0])):=by
 have Ve:(AV.pv S).one=true:=by rcases hS.is with⟨h,_⟩ | h <;> rw[h] <;> rfl
 have hp:=Jao hS;have rj:∀ (a:PV),Db [.box [.pv .oa]] 1 (.ptr 0 0) (.pv (.agg [.oa]))=some [.box [.pv .oa]]:=fun a=>rfl;have yw:wa [.box [.pv .oa]] true 1 (.ptr 0 0)=some (.pv (.agg [.oa])):=rfl;refine⟨?_,?_,?_,?_⟩
 ·intro h
  have h1:=hp.1 h
  have b1:((84:Int) != 0)=true:=by decide
  simp -implicitDefEqProofs only[Tm,SX,sevalprocAttr,-List.reduceReplicate,oD,Ve,pj,h1,b1,rj .oa,yw]
 ·intro ga wc
  obtain⟨b,h1,hb⟩:=hp.2 ga
  have:b=false:=by cases b with | false=>rfl | true=>exact absurd (hb.1 rfl) wc
  subst this;have b1:((0:Int) != 0)=false:=by decide
  simp -implicitDefEqProofs only[Tm,SX,sevalprocAttr,-List.reduceReplicate,oD,Ve,pj,h1,b1,rj .oa,yw]
 ·intro ga wc XH
  obtain⟨b,h1,hb⟩:=hp.2 ga
  have:=hb.2 wc
  subst this;have hn:cg ss 64 (Zf ss,[])=none:=by unfold bf at XH;simpa using XH
  have h2:=(C8 hS ga).2 hn
  have b1:((0:Int) != 0)=false:=by decide
  simp -implicitDefEqProofs only[Tm,SX,sevalprocAttr,-List.reduceReplicate,oD,Ve,pj,h1,h2,b1,rj .oa,yw]
 ·intro ga wc l XH
  obtain⟨b,h1,hb⟩:=hp.2 ga
  have:=hb.2 wc
  subst this;obtain⟨p,hn,hl⟩:∃ r,cg ss 64 (Zf ss,[])=some r/\Fl (eg r.2.length r.2.flatten).C=l:=by unfold bf at XH;simpa using XH
  obtain⟨h2,_⟩:=(C8 hS ga).1 p hn
  obtain⟨W,hlen⟩:=O9 ga.len ga.ne hn
  have th:0 < p.2.length:=by
   have:=(Ad.1 W.pa).1
   omega
  obtain⟨f,hK,h3⟩:=yaa (W.pb hlen) th (W.aas hlen);have iZ:∀ a,f a a=false:=fun a=>by
   cases h:f a a with
   |false=>rfl
   |true=>exact absurd rfl (hK.snd a a h)
  have Qp:=W.known hlen hK
  have htr:=Uar ga wc W hlen iZ Qp th;have Mg:=Eab (La (fun _=>none) 8) (W.pb hlen) (W.ge hlen) iZ th (.box [.pv .oa]) (fun n=>rfl);rw[htr] at hl;rw[hl] at Mg;have b1:((0:Int) != 0)=false:=by decide
  have mZ:ints [0]=[aa 0]:=rfl;have ho0:Li []=[]:=rfl;rw[mZ,ho0] at Mg;have key:Ia (fun r=>r=PV.Ba [.agg [ni l],aa 0]) (Tm [.agg [S]]):=by
   have xn:ni l= .lit 1 (Li l):=rfl
   have Va:0 < l.length->l.isEmpty=false:=fun h=>by cases l with | nil=>simp at h | cons=>rfl
   have g1:(0 < 1)=True:=by simp
   have st1:Db [.box [.pv .oa],.tok 1 1 false,.box [.pv .oa]] 1 (.ptr 2 0) (.pv (.agg [.oa]))=some [.box [.pv .oa],.tok 1 1 false,.box [.pv .oa]]:=rfl;have AS:Ha (Fa 4) [.box [.pv .oa],.tok 1 1 false,lh true [],.tok 1 0 true]=some [.box [.pv .oa],.tok 1 1 false,lh true [],.tok 1 0 true]:=rfl;have od:∀ a b c d:fa,([a,b,c,d]:List fa).take 4=[a,b,c,d]:=fun a b c d=>rfl
   have d40:(0 < 4)=True:=by simp
   have d41:(1 < 4)=True:=by simp
   have d42:(2 < 4)=True:=by simp
   generalize ec:(fun r:PV=>_)=QQ;generalize (PV.lit 256 (p.2.map Zb))=L at *;generalize hM:Lf p.2.length f=M at *
   have hMo:(AV.pv M).one=true:=by rw[<- hM];rfl
   generalize p.1.map Mc=se at *
   simp -implicitDefEqProofs only[Tm,SP,WP,za,sevalprocAttr,-List.reduceReplicate,oD,Ve,pj,h1,h2,h3,b1,st1,Af,g1,mh,AV.Mi,AV.xi,Oc,AS,od,d40,d41,d42,ta,Za,AV.cut,Cb];refine Bb Mg ?_;rintro r ⟨E,O,rfl,k2,Yg,Daj⟩;rw[Va Daj];have ld1:∀ (out:List PV)(a b:fa),wa [.box [.pv .oa],a,lh false out,b] true 1 (.ptr 2 0)=some (.agg [.uq 3 false 1 out]):=fun out a b=>rfl;have st2:∀ (out:List PV)(a b c:fa),Db [.box [.pv .oa],a,b,c] 1 (.ptr 0 0) (.agg [.uq 3 false 1 out])=some [lh false out,a,b,c]:=fun out a b c=>rfl;have KI:∀ (out:List PV)(a b c:fa),wa [lh false out,a,b,c] true 1 (.ptr 0 0)=some (.agg [.uq 3 false 1 out]):=fun out a b c=>rfl;generalize Li l=out at *;simp -implicitDefEqProofs only[SP,WP,za,sevalprocAttr,-List.reduceReplicate,k2,Yg,ld1,st2,KI];subst ec;rw[xn]
  exact Hl key
attribute [local irreducible] Ia
structure aG(ss:List ya):Prop where
 len:ss.length * 32<=140737488355328
 ba:∀ s∈ss,s.ba.length * 24<=140737488355328
def Kh(ls:List (List (Int×Int))):List PV:=ls.map rh
def Ox(ls:List (List (Int×Int))):PV:=if ls.isEmpty then .oa else .lit 1 (Kh ls)
def mH(s:ya):PV:= .agg [Ox s.ba,aa s.pa]
def ei(ss:List ya):List PV:=ss.map mH
def LL(ss:List ya):PV:=if ss.isEmpty then .oa else .lit 2 (ei ss)
abbrev RD(row:List PV)(i:Int):Tr:=(((Tr.lf.set 4 (.pv (aa i))).set 3 (.ptr 1 0)).set 2 (.ptr 0 0)).set 1 (.pv (.rp row 0))
abbrev yj(nl:Bool)(out:List PV)(pa:Int):fa:= .box [.uq 2 nl 1 out,.pv (aa first)]
theorem Xac{e:PV}{s:ya}{P:PV}{ps:List PV}(h:Yh e s P ps)(ib:s.ba.length * 24<=140737488355328):cK [e]=some (mH s):=by
 obtain⟨rfl,hP⟩:=h;have Me:(AV.pv P).one=true:=by rcases hP.is with⟨h,_⟩ | h <;> rw[h] <;> rfl
 have ln:=hP.mb
 have eB:∀ nl out n,Ha (Fa 3) [.box [.pv .oa,.pv (aa 0)],yj nl out s.pa,.tok 1 n nl]=some [.box [.pv .oa,.pv (aa 0)],yj nl out s.pa,.tok 1 n nl]:=fun nl out n=>rfl;have pN:∀ a b c d:fa,([a,b,c,d]:List fa).take 3=[a,b,c]:=fun a b c d=>rfl
 have Yaj:∀ a b c:fa,([a,b,c]:List fa).take 3=[a,b,c]:=fun a b c=>rfl
 have d0:(0 < 3)=True:=by simp
 have d1:(1 < 3)=True:=by simp
 have yc:Ia (fun r=>∃ E nl,r=(.exit 0,⟨E,[.box [.pv .oa,.pv (aa 0)],yj s.ba.isEmpty (Kh s.ba) s.pa,.tok 1 s.ba.length nl]⟩)/\E.get 2= .ptr 0 0/\E.get 3= .ptr 1 0)
  (Mb (Aa (ua (La (fun _=>none) 8) BG) (ta 3 [1,2,3,4])) Ga ⟨RD [P,aa s.pa] 0,[.box [.pv .oa,.pv (aa 0)],yj true [] s.pa,.tok 1 0 true]⟩):=by
  refine Bb (We (g:=Aa (ua (La (fun _=>none) 8) BG) (ta 3 [1,2,3,4]))
   (fun i t=>t=⟨RD [P,aa s.pa] i,[.box [.pv .oa,.pv (aa 0)],yj (s.ba.take i).isEmpty (Kh (s.ba.take i)) s.pa,.tok 1 i (s.ba.take i).isEmpty]⟩)
   s.ba.length (by unfold Ga;omega) _ rfl ?_ ?_) (fun r h=>h.2)
  ·rintro i t hi rfl
   obtain⟨v,hv,Qf,_⟩:=hP.Nd hi []
   have a1:=hP.Sy hv
   have Th:s.ba.take (i+1)=s.ba.take i++[s.ba[i]]:=by simp
   have Bk:(s.ba.take (i+1)).isEmpty=false:=by rw[Th];cases s.ba.take i <;> rfl
   have fc:Kh (s.ba.take (i+1))=Kh (s.ba.take i)++[rh s.ba[i]]:=by rw[Th,Kh,xm];rfl
   have bI:(Kh (s.ba.take i)).length=i:=by rw[Kh,wb,ij];omega
   have JS:rh s.ba[i]= .lit 2 (Pa s.ba[i]):=rfl
   rw[JS] at fc;have vf:∀ st:St,st=⟨RD [P,aa s.pa] (i+1:Nat),[.box [.pv .oa,.pv (aa 0)],yj false (Kh (s.ba.take (i+1))) s.pa,.tok 1 (i+1) false]⟩->
    LN (fun i t=>t=⟨RD [P,aa s.pa] i,[.box [.pv .oa,.pv (aa 0)],yj (s.ba.take i).isEmpty (Kh (s.ba.take i)) s.pa,.tok 1 i (s.ba.take i).isEmpty]⟩)
     (fun r=>∃ E nl,r=(.exit 0,⟨E,[.box [.pv .oa,.pv (aa 0)],yj s.ba.isEmpty (Kh s.ba) s.pa,.tok 1 s.ba.length nl]⟩)/\E.get 2= .ptr 0 0/\E.get 3= .ptr 1 0) i (.norm,st):=by
    intro st h;show st=_;rw[h,Bk]
   generalize LN _ _ i=QQ at vf ⊢;have hpz:=Qf.sz
   have hpi:=Qf.is
   have xc:(Pa s.ba[i]).length=s.ba[i].length:=by simp[Pa]
   generalize s.ba[i]=l at *
   generalize (s.ba.take i).isEmpty=nl at *
   have NM:Ud [.box [.pv .oa,.pv (aa 0)],yj nl (Kh (s.ba.take i)) s.pa,.tok 1 i nl,.tok 2 0 false] false .uq 2 true 16 (.uq 3 false 2 []) (.pv v)=some (.uq 3 false 2 (Pa l),[.box [.pv .oa,.pv (aa 0)],yj nl (Kh (s.ba.take i)) s.pa,.tok 1 i nl,.tok 2 l.length false]):=by
    rcases hpi with⟨h1,h2⟩ | h1
    ·have:l.length=0:=by rw[<- xc,h2];rfl
     rw[h1,h2,this];rfl
    ·rw[h1]
     simp only[Ud,Sc,if_false,Jj,Kj,Bg,if_true,Lc];rw[if_pos ⟨trivial,trivial,rfl,by rw[xc];unfold Ac;simp;exact hpz⟩];simp[xc]
   have iy:Ud [.box [.pv .oa,.pv (aa 0)],yj nl (Kh (s.ba.take i)) s.pa,.tok 1 i nl,.tok 2 l.length false] false .uq 1 false 24 (.uq 2 nl 1 (Kh (s.ba.take i))) (.pv (.lit 1 [.lit 2 (Pa l)]))=some (.uq 2 false 1 (Kh (s.ba.take (i+1))),[.box [.pv .oa,.pv (aa 0)],yj nl (Kh (s.ba.take i)) s.pa,.tok 1 (i+1) false,.tok 2 l.length false]):=by
    have:=Jo (A:=[.box [.pv .oa,.pv (aa 0)],yj nl (Kh (s.ba.take i)) s.pa,.tok 1 i nl,.tok 2 l.length false]) (id:=2) (n:=i) (sz:=1) (h:= .uq) (nl:=nl) (ag:=false) (bytes:=24) (es:=Kh (s.ba.take i)) rfl bI.symm (by unfold Ac;omega) (.lit 2 (Pa l))
    rw[this,fc];rfl
   have e1:decide ((i:Int) < (s.ba.length:Int))=true:=Qa (by omega);have t2:IntKind.i64.wrap ((i:Int)+1)=((i+1:Nat):Int):=Gb (by omega)
   generalize Kh (s.ba.take i)=o at *;generalize Kh (s.ba.take (i+1))=o' at *;generalize Pa l=es at *;have pl:∀ c d,place [.box [.pv .oa,.pv (aa 0)],yj nl o s.pa,c,d] 0 (.ptr 1 0)=some (.ptr 1 0):=fun c d=>rfl;have pl':∀ c,place [.box [.pv .oa,.pv (aa 0)],yj nl o s.pa,c] 0 (.ptr 1 0)=some (.ptr 1 0):=fun c=>rfl;have ld:∀ c,wa [.box [.pv .oa,.pv (aa 0)],yj nl o s.pa,c] false 1 (.ptr 1 0)=some (.uq 2 nl 1 o):=fun c=>rfl;have st:∀ c d,Db [.box [.pv .oa,.pv (aa 0)],yj nl o s.pa,c,d] 1 (.ptr 1 0) (.uq 2 false 1 o')=some [.box [.pv .oa,.pv (aa 0)],yj false o' s.pa,c,d]:=fun c d=>rfl;have yS:=eB false o' (i+1);simp -implicitDefEqProofs only[SP,WP,za,sevalprocAttr,BG,Wh,Vh,ln,e1,t2,a1,Xd,pl,pl',ld,st,NM,iy,yS,pN,d0,d1,mh,AV.Mi,AV.xi,ta,Za,AV.cut,Cb,RD];exact vf _ rfl
  ·rintro t rfl
   rw[ai];have e1:decide ((s.ba.length:Int) < (s.ba.length:Int))=false:=Ra (by omega);generalize Kh s.ba=o
   generalize s.ba.isEmpty=nl
   generalize hQ:(fun r:Ex×St=>r.1.stop=true/\_)=Q;simp -implicitDefEqProofs only[SP,WP,za,sevalprocAttr,BG,Wh,Vh,ln,e1,RD];subst hQ;exact⟨rfl,_,nl,rfl,by simp[Tr.na],by simp[Tr.na]⟩
 have rj:Db [.box [.pv .oa,.pv (aa 0)],.box [.pv .oa,.pv (aa 0)]] 2 (.ptr 1 0) (.pv (.agg [.oa,aa s.pa]))=some [.box [.pv .oa,.pv (aa 0)],.box [.pv .oa,.pv (aa s.pa)]]:=rfl;have g1:(0 < 1)=True:=by simp
 have zS:=eB true [] 0;have ld1:∀ nl out c,wa [.box [.pv .oa,.pv (aa 0)],yj nl out s.pa,c] true 2 (.ptr 1 0)=some (.agg [.uq 2 nl 1 out,.pv (aa s.pa)]):=fun nl out c=>rfl;have st1:∀ nl out b c,Db [.box [.pv .oa,.pv (aa 0)],b,c] 2 (.ptr 0 0) (.agg [.uq 2 nl 1 out,.pv (aa s.pa)])=some [yj nl out s.pa,b,c]:=fun nl out b c=>rfl;have KI:∀ nl out b c,wa [yj nl out s.pa,b,c] true 2 (.ptr 0 0)=some (.agg [.uq 2 nl 1 out,.pv (aa s.pa)]):=fun nl out b c=>rfl;apply Hl;unfold mH Ox;generalize Kh s.ba=o at *
 generalize s.ba.isEmpty=em at *
 simp -implicitDefEqProofs only[cK,SP,WP,za,sevalprocAttr,TP,Me,Wh,Su,Vh,Jt,rj,Af,g1,Oc,zS,Yaj,d0,d1,ta,Za,AV.cut,Cb];refine Bb yc ?_;rintro r ⟨E,nl,rfl,k2,k3⟩;cases em <;> simp -implicitDefEqProofs only[SP,WP,za,sevalprocAttr,k2,k3,ld1,st1,KI]
abbrev SD(row:List PV)(i:Int):Tr:=(((Tr.lf.set 4 (.pv (aa i))).set 3 (.ptr 1 0)).set 2 (.ptr 0 0)).set 1 (.pv (.rp row 0))
abbrev Uk(nl:Bool)(out:List PV):fa:= .box [.uq 2 nl 2 out]
theorem Vac{S:PV}{ss:List ya}{es:List PV}(hS:zd S ss es)(hz:aG ss):bK [.agg [S]]=some (.agg [LL ss]):=by
 have Ve:(AV.pv S).one=true:=by rcases hS.is with⟨h,_⟩ | h <;> rw[h] <;> rfl
 have ln:=hS.mb
 have pt:=hz.len
 have eB:∀ nl out n,Ha (Fa 3) [.box [.pv .oa],Uk nl out,.tok 2 n nl]=some [.box [.pv .oa],Uk nl out,.tok 2 n nl]:=fun nl out n=>rfl;have pN:∀ a b c:fa,([a,b,c]:List fa).take 3=[a,b,c]:=fun a b c=>rfl
 have d0:(0 < 3)=True:=by simp
 have d1:(1 < 3)=True:=by simp
 have yc:Ia (fun r=>∃ E nl,r=(.exit 0,⟨E,[.box [.pv .oa],Uk ss.isEmpty (ei ss),.tok 2 ss.length nl]⟩)/\E.get 2= .ptr 0 0/\E.get 3= .ptr 1 0)
  (Mb (Aa (ua (La (fun _=>none) 8) CG) (ta 3 [1,2,3,4])) Ga ⟨SD [S] 0,[.box [.pv .oa],Uk true [],.tok 2 0 true]⟩):=by
  refine Bb (We (g:=Aa (ua (La (fun _=>none) 8) CG) (ta 3 [1,2,3,4]))
   (fun i t=>t=⟨SD [S] i,[.box [.pv .oa],Uk (ss.take i).isEmpty (ei (ss.take i)),.tok 2 i (ss.take i).isEmpty]⟩)
   ss.length (by unfold Ga;omega) _ rfl ?_ ?_) (fun r h=>h.2)
  ·rintro i t hi rfl
   obtain⟨P,ps,hP,a1⟩:=hS.Nd hi
   have Kg:=Xac hP (hz.ba _ (ic hi));have Th:ss.take (i+1)=ss.take i++[ss[i]]:=by simp
   have Bk:(ss.take (i+1)).isEmpty=false:=by rw[Th];cases ss.take i <;> rfl
   have fc:ei (ss.take (i+1))=ei (ss.take i)++[mH ss[i]]:=by rw[Th,ei,xm];rfl
   have bI:(ei (ss.take i)).length=i:=by rw[ei,wb,ij];omega
   have JS:mH ss[i]= .agg [Ox ss[i].ba,aa ss[i].pa]:=rfl
   rw[JS] at fc Kg;have vf:∀ st:St,st=⟨SD [S] (i+1:Nat),[.box [.pv .oa],Uk false (ei (ss.take (i+1))),.tok 2 (i+1) false]⟩->
    LN (fun i t=>t=⟨SD [S] i,[.box [.pv .oa],Uk (ss.take i).isEmpty (ei (ss.take i)),.tok 2 i (ss.take i).isEmpty]⟩)
     (fun r=>∃ E nl,r=(.exit 0,⟨E,[.box [.pv .oa],Uk ss.isEmpty (ei ss),.tok 2 ss.length nl]⟩)/\E.get 2= .ptr 0 0/\E.get 3= .ptr 1 0) i (.norm,st):=by
    intro st h;show st=_;rw[h,Bk]
   generalize LN _ _ i=QQ at vf ⊢;have nf:(AV.pv (Ox ss[i].ba)).one=true:=by unfold Ox;split <;> rfl
   generalize Ox ss[i].ba=pv at *
   generalize ss[i].pa=fi at *
   generalize (ss.take i).isEmpty=nl at *
   have iy:Ud [.box [.pv .oa],Uk nl (ei (ss.take i)),.tok 2 i nl] false .uq 2 true 32 (.uq 2 nl 2 (ei (ss.take i))) (.pv (.lit 2 [.agg [pv,aa fi]]))=some (.uq 2 false 2 (ei (ss.take (i+1))),[.box [.pv .oa],Uk nl (ei (ss.take i)),.tok 2 (i+1) false]):=by
    have:=Jo (A:=[.box [.pv .oa],Uk nl (ei (ss.take i)),.tok 2 i nl]) (id:=2) (n:=i) (sz:=2) (h:= .uq) (nl:=nl) (ag:=true) (bytes:=32) (es:=ei (ss.take i)) rfl bI.symm (by unfold Ac;omega) (.agg [pv,aa fi])
    rw[this,fc];rfl
   have e1:decide ((i:Int) < (ss.length:Int))=true:=Qa (by omega);have t2:IntKind.i64.wrap ((i:Int)+1)=((i+1:Nat):Int):=Gb (by omega)
   generalize ei (ss.take i)=o at *;generalize ei (ss.take (i+1))=o' at *;have pl:∀ c,place [.box [.pv .oa],Uk nl o,c] 0 (.ptr 1 0)=some (.ptr 1 0):=fun c=>rfl;have ld:∀ c,wa [.box [.pv .oa],Uk nl o,c] false 1 (.ptr 1 0)=some (.uq 2 nl 2 o):=fun c=>rfl;have st:∀ c,Db [.box [.pv .oa],Uk nl o,c] 1 (.ptr 1 0) (.uq 2 false 2 o')=some [.box [.pv .oa],Uk false o',c]:=fun c=>rfl;have yS:=eB false o' (i+1);simp -implicitDefEqProofs only[SP,WP,za,sevalprocAttr,CG,ah,Xd,nm,ln,e1,t2,a1,Kg,pl,ld,st,iy,nf,yS,pN,d0,d1,mh,AV.Mi,AV.xi,ta,Za,AV.cut,Cb,SD];exact vf _ rfl
  ·rintro t rfl
   rw[ai];have e1:decide ((ss.length:Int) < (ss.length:Int))=false:=Ra (by omega);generalize ei ss=o;generalize ss.isEmpty=nl
   generalize hQ:(fun r:Ex×St=>r.1.stop=true/\_)=Q;simp -implicitDefEqProofs only[SP,WP,za,sevalprocAttr,CG,ah,Xd,ln,e1,SD];subst hQ;exact⟨rfl,_,nl,rfl,by simp[Tr.na],by simp[Tr.na]⟩
 have rj:Db [.box [.pv .oa],.box [.pv .oa]] 1 (.ptr 1 0) (.pv (.agg [.oa]))=some [.box [.pv .oa],.box [.pv .oa]]:=rfl;have g1:(0 < 2)=True:=by simp
 have zS:=eB true [] 0;have ld1:∀ nl out c,wa [.box [.pv .oa],Uk nl out,c] true 1 (.ptr 1 0)=some (.agg [.uq 2 nl 2 out]):=fun nl out c=>rfl;have st1:∀ nl out b c,Db [.box [.pv .oa],b,c] 1 (.ptr 0 0) (.agg [.uq 2 nl 2 out])=some [Uk nl out,b,c]:=fun nl out b c=>rfl;have KI:∀ nl out b c,wa [Uk nl out,b,c] true 1 (.ptr 0 0)=some (.agg [.uq 2 nl 2 out]):=fun nl out b c=>rfl;apply Hl;unfold LL;generalize ei ss=o at *;generalize ss.isEmpty=em at *
 simp -implicitDefEqProofs only[bK,SP,WP,za,sevalprocAttr,RP,Ve,ah,Xd,rj,Af,g1,Oc,zS,pN,d0,d1,ta,Za,AV.cut,Cb];refine Bb yc ?_;rintro r ⟨E,nl,rfl,k2,k3⟩;cases em <;> simp -implicitDefEqProofs only[SP,WP,za,sevalprocAttr,k2,k3,ld1,st1,KI]
theorem Yac{ls:List (List (Int×Int))}(hl:ls.length<=maxLen)(h:∀ l∈ls,l.length * 16<=140737488355328):sk (Ox ls) ls (Kh ls):=by
 refine⟨?_,by simp[Kh],?_,hl⟩
 ·cases ls with
  |nil=>exact .inl ⟨rfl,rfl⟩
  |cons a r=>exact .inr rfl
 ·intro k v l hv hl
  rw[Kh,Gd,hl] at hv;simp at hv;subst hv;exact⟨.inr rfl,h l (vj hl)⟩
theorem Uac{S:PV}{ss:List ya}{es:List PV}(hS:zd S ss es):zd (LL ss) ss (ei ss):=by
 refine⟨?_,by simp[ei],?_,hS.sz⟩
 ·cases ss with
  |nil=>exact .inl ⟨rfl,rfl⟩
  |cons a r=>exact .inr rfl
 ·intro k e s he hs
  rw[ei,Gd,hs] at he;simp at he;subst he;obtain⟨i,hi⟩:=uj (vj hs);obtain⟨hk,VS⟩:=Ad.1 hs
  obtain⟨e',P,ps,_,_,hP⟩:=hS.get hk
  rw[VS] at hP;exact⟨Ox s.ba,Kh s.ba,rfl,Yac hP.ba.sz (hS.DU s (vj hs))⟩
attribute [local irreducible] Ia
open Go.AM
def vh(l:List (List Oa)):Nat->Int->List Int->Int×Int
 |i,_,[]=>(i,2)
 |i,st,b::r=>if (Md l st b).2=false then ((i:Int),3) else if (Md l st b).1= -1 then (((i+1:Nat):Int),1) else vh l (i+1) (Md l st b).1 r
section
variable (call:Ab)(A B:PV)(l:List (List Oa))(hA:Mo A l)(bs:List Int)(hB:Pb 1 B (bs.map u8))(hb:∀ b∈bs,0<=b/\b<=255)(hw:bs.length<=maxLen)
include hA hB hb hw
end
section
variable (A:PV)(l:List (List Oa))(hA:Mo A l)
include hA
end
section
variable (call:Ab)(av bs:List PV)(i:Nat)(a b:List Oa)(V W:PV)(sB:i < av.length)(dw:i < bs.length)(hV:av[i]? =some V)(hW:bs[i]? =some W)(hVL:Pb 3 V (a.map gu))(hWL:Pb 3 W (b.map gu))(hw:a.length<=maxLen)
include sB hV hVL
include dw hW hWL hw
end
section
variable (A B:PV)(l m:List (List Oa))(hA:Mo A l)(hB:Mo B m)
include hA hB
end
theorem DX(row:List Int):∀ (xs:List Nat)(l:List Oa),(qh row xs l).length<=l.length+xs.length
 | [],l=>by simp[qh]
 |x::xs,l=>by rw[qh];have h1:=DX row xs (uf x (row.getD x 0) l);have h2:=AX x (row.getD x 0) l;simp only[Td];omega
theorem Tad(row:List Int):(fh row).length<=256:=by
 have:=DX row (List.range 256) [];simpa[fh] using this
theorem s9(C:List Int):∀ (k:Nat)(r:List Int×List (List Oa)),(gk C k r).2.length<=r.2.length+k/\∀ e∈(gk C k r).2,e∈r.2\/e.length<=256
 |0,r=>⟨by simp[gk],fun e he=> .inl he⟩
 |k+1,r=>by
  cases ho:r.1[r.2.length]? with
  |none=>rw[zJ ho];exact⟨by omega,fun e he=> .inl he⟩
  |some o=>
   rw[VO ho];obtain⟨h1,h2⟩:=s9 C k ((fj C o r.1).1,r.2++[fh (fj C o r.1).2]);simp only[Pc,QC] at h1;refine⟨by omega,fun e he=> ?_⟩;rcases h2 e he with h3 | h3
   ·simp only[Bd,ym] at h3
    rcases h3 with h3 | h3
    ·exact .inl h3
    ·refine .inr ?_;rw[h3];exact Tad _
   ·exact .inr h3
theorem Mar(C:List Int)(k:Nat)(o:List Int):(gk C k (o,[])).2.length<=k/\∀ e∈(gk C k (o,[])).2,e.length<=256:=by
 have h:=s9 C k (o,[]);generalize gk C k (o,[])=r at h ⊢;refine⟨by simpa using h.1,fun e he=> ?_⟩;rcases h.2 e he with h | h
 ·cases h
 ·exact h
set_option maxRecDepth 8000 in
theorem Nar(C:List Int):(Fl C).length<=64/\∀ e∈Fl C,e.length<=256:=Mar C 64 [0]
theorem DP{ss:List ya}{l:List (List Oa)}(h:bf ss=some l):l.length<=64/\∀ e∈l,e.length<=256:=by
 unfold bf at h;rw[dc] at h;obtain⟨r,_,rfl⟩:=h;exact Nar _
theorem HX(e:List Oa):Pb 3 (ae e) (e.map gu):=by
 unfold ae;cases e with
 |nil=>exact .inl ⟨rfl,rfl⟩
 |cons a r=>exact .inr rfl
theorem KX{l:List (List Oa)}(h1:l.length<=64)(h2:∀ e∈l,e.length<=256):Mo (ni l) l:=by
 refine⟨⟨l.map ae,.inr rfl,by simp,?_⟩,by omega,fun e he=>by have:=h2 e he;omega⟩;intro i v e hv he;rw[Gd,he] at hv;simp at hv;subst hv;exact HX e
theorem iU:Mo .oa []:=⟨⟨[],.inl ⟨rfl,rfl⟩,rfl,by simp⟩,by simp,by simp⟩
theorem pab(ss:List ya):∃ (V:PV)(l:List (List Oa))(n:Int),Mo V l/\(n=0↔∃ l',bf ss=some l'/\uc ss/\Ee ss/\V=ni l'/\l=l')/\(n≠0->V= .oa)/\
 (∀ (A:PV)(ea:List PV),zd A ss ea->qk [.agg [A]]=some (.Ba [.agg [V],aa n]))/\(∀ (A:PV)(ea:List PV),zd A ss ea->Tm [.agg [A]]=some (.Ba [.agg [V],aa n])):=by
 by_cases h1:uc ss
 ·by_cases h2:Ee ss
  ·cases h3:bf ss with
   |none=>exact⟨.oa,[],130,iU,⟨fun h=>(by cases h),fun ⟨_,h,_⟩=>(by cases h)⟩,fun _=>rfl,fun A ea h=>(Pq h).2.2.1 h1 h2 h3,fun A ea h=>(jO h).2.2.1 h1 h2 h3⟩
   |some l=>obtain⟨k1,k2⟩:=DP h3;exact⟨ni l,l,0,KX k1 k2,⟨fun _=>⟨l,rfl,h1,h2,rfl,rfl⟩,fun _=>rfl⟩,fun h=>absurd rfl h,fun A ea h=>(Pq h).2.2.2 h1 h2 l h3,fun A ea h=>(jO h).2.2.2 h1 h2 l h3⟩
  ·exact⟨.oa,[],110,iU,⟨fun h=>(by cases h),fun ⟨_,_,_,h,_⟩=>absurd h h2⟩,fun _=>rfl,fun A ea h=>(Pq h).2.1 h1 h2,fun A ea h=>(jO h).2.1 h1 h2⟩
 ·exact⟨.oa,[],84,iU,⟨fun h=>(by cases h),fun ⟨_,_,h,_⟩=>absurd h h1⟩,fun _=>rfl,fun A ea h=>(Pq h).1 h1,fun A ea h=>(jO h).1 h1⟩
def ql(es:List Oa):PV:= .agg ((List.range 256).map fun b=> .int .i8 (Ki es b))
theorem w8{α:Type}{cs vs:List α}(h:vs.length=cs.length):za cs 0 vs=vs:=by
 apply Nl;intro p;rw[So.Lr]
 by_cases hp:p < cs.length
 ·rw[dif_pos ⟨by omega,by omega,hp⟩];simp
 ·rw[dif_neg (by omega),dh (by omega),dh (by omega)]
theorem setRow_self{α:Type}(cs:List α):za cs 0 cs=cs:=w8 rfl
theorem XV:fa.box ((List.replicate 256 (PV.int .i8 0)).map .pv)=b8 fun _=>0:=by
 unfold b8 cellsOf;rw[List.map_const',Wn,Sz]
theorem Uao(n:Nat):(List.replicate n (AV.pv (.int .i8 0))).all AV.one=true:=by
 rw[Df];intro x hx;rw[AK hx];rfl
def Vf(o0 o1 o4 o5:fa)(c0 c1 c3 c4 c5:AV)(nl:Bool)(es:List PV):List fa:=[o0,o1,.box [c0,c1,.uq 3 nl 256 es,c3,c4,c5],.tok 256 es.length nl,o4,o5]
section
variable {call:Ab}{o0 o1 o4 o5:fa}{c0 c1 c3 c4 c5:AV}
 (hg:∀ nl es,Pd (Vf o0 o1 o4 o5 c0 c1 c3 c4 c5 nl es))
include hg
theorem zam{E:Tr}{V:PV}{l:List (List Oa)}{i:Nat}{nl:Bool}{es:List PV}(hV:Pb 1 V (l.map ae))(hl:l.length<=64)(hle:∀ e∈l,e.length<=256)(ga:∀ e∈l,Kl e)(hi:i < l.length)(he:es.length=i)
 (h8:E.get 8= .ptr 2 0) (h101:E.get 101= .pv V) (h102:E.get 102= .pv (aa l.length)) (h103:E.get 103= .pv (aa i)):
 Ia (fun r=>∃ E',r=(.norm,⟨E',Vf o0 o1 o4 o5 c0 c1 c3 c4 c5 false (es++[ql l[i]])++[b8 (Ki l[i])]⟩)/\Bc [8,101,102] E E'/\E'.get 103= .pv (aa (i+1:Nat)))
  (ua call bH ⟨E,Vf o0 o1 o4 o5 c0 c1 c3 c4 c5 nl es⟩):=by
 have YA:=hV.lit (i:=i) (by simpa using hi)
 have tr:=ic hi;have Bk:=ga _ tr;have Gai:=hle _ tr;have hA:=hg nl es;have BM:(Vf o0 o1 o4 o5 c0 c1 c3 c4 c5 nl es).length=6:=rfl
 have e1:decide ((i:Int) < (l.length:Int))=true:=Qa (by omega);have t1:IntKind.i64.wrap ((i:Int)+1)=((i+1:Nat):Int):=sm (by omega)
 have CT:(ae l[i]).cells=[ae l[i]]:=by unfold ae;split <;> rfl
 have a1:Ua (Vf o0 o1 o4 o5 c0 c1 c3 c4 c5 nl es) 1 (.pv V) (i:Int)=some (.pv (.rp [ae l[i]] 0)):=by rw[YA];simp only[Ua];rw[if_pos ⟨trivial,by unfold Ta;rw[wb];omega⟩,Uc,Gd,Rb hi,Vc,Vc,CT]
 have hL:=HX l[i];have lL:=hL.len
 rw[wb] at lL;have dai:=fun (E2:Tr)(q8:E2.get 8= .ptr 2 0)(fC:E2.get 12= .pv (ae l[i]))(jm:E2.get 13= .ptr 6 0)(YB:E2.get 101= .pv V)(ZB:E2.get 102= .pv (aa l.length))(aC:E2.get 103= .pv (aa i))(EU:E2.get 108= .pv (aa 0))=>
  uam (call:=call) hA (g0:=fun _=>0) (tb:=2) (by rw[BM];omega) q8 fC jm YB ZB aC EU
 have kai:=fun (E2:Tr)(q8:E2.get 8= .ptr 2 0)(jm:E2.get 13= .ptr 6 0)(YB:E2.get 101= .pv V)(ZB:E2.get 102= .pv (aa l.length))(aC:E2.get 103= .pv (aa i))(bC:E2.get 114= .pv (ae l[i]))(eC:E2.get 115= .pv (aa l[i].length))(gz:E2.get 116= .pv (aa 0))=>
  wam (call:=call) hA (tb:=2) Bk hL Gai (by rw[BM];omega) q8 jm YB ZB aC bC eC gz
 generalize l[i]=ed at *;have s0:Db (Vf o0 o1 o4 o5 c0 c1 c3 c4 c5 nl es++[b8 fun _=>0]) 256 (.ptr 6 0) (.pv (.agg (List.replicate 256 (PV.int .i8 0))))=some (Vf o0 o1 o4 o5 c0 c1 c3 c4 c5 nl es++[b8 fun _=>0]):=by have hq:=dn (Vf o0 o1 o4 o5 c0 c1 c3 c4 c5 nl es) (b8 fun _=>0);have hs:=Uu (Vf o0 o1 o4 o5 c0 c1 c3 c4 c5 nl es) (b8 fun _=>0) (b8 fun _=>0);rw[BM] at hq hs;simp only[Db,hq,AV.cells,PV.cells,wb,Gq,Sz];rw[if_pos ⟨trivial,Uao 256⟩];rw[<- XV,Sz] at hs ⊢;simp only[Gq];rw[if_pos (by omega),setRow_self,hs]
 generalize Uv:Vf o0 o1 o4 o5 c0 c1 c3 c4 c5 nl es++[b8 fun _=>0]=A1 at *;have bZ:Vf o0 o1 o4 o5 c0 c1 c3 c4 c5 nl es++[fa.box ((List.replicate 256 (PV.int .i8 0)).map .pv)]=A1:=by rw[XV];exact Uv
 have vd:=So.Sk (List.replicate 256 (PV.int .i8 0))
 rw[Sz] at vd bZ;generalize ju:Vf o0 o1 o4 o5 c0 c1 c3 c4 c5 nl es=A0 at *;generalize hQ:(fun r:Ex×St=>∃ E',r=_/\_)=Q;simp -implicitDefEqProofs only[SX,sevalprocAttr,-List.reduceReplicate,bH,h8,h101,h102,h103,e1,a1,Xd,vd,BM,bZ,s0,Sz];generalize vc:(Tr.set _ 108 _:Tr)=E2;have k2:Bc [8,101,102,103] E E2:=by
  rw[<- vc]
  repeat refine Bc.set ?_ rfl
  exact Bc.refl _ _
 have fC:E2.get 12= .pv (ae ed):=by rw[<- vc];simp[Tr.na,-List.reduceReplicate]
 have jm:E2.get 13= .ptr 6 0:=by rw[<- vc];simp[Tr.na,-List.reduceReplicate]
 have EU:E2.get 108= .pv (aa 0):=by rw[<- vc];simp[Tr.na,-List.reduceReplicate]
 refine Bb (dai E2 ((k2 8 (by simp)).trans h8) fC jm ((k2 101 (by simp)).trans h101) ((k2 102 (by simp)).trans h102) ((k2 103 (by simp)).trans h103) EU) ?_;rintro r ⟨_,E3,rfl,k3⟩;have k3:Bc [8,12,13,101,102,103] E2 E3:=k3;have z12:=(k3 12 (by simp)).trans fC
 simp -implicitDefEqProofs only[SX,sevalprocAttr,-List.reduceReplicate,z12,lL];generalize OH:(Tr.set _ 116 _:Tr)=E4;have k4:Bc [8,101,102,103] E E4:=by
  rw[<- OH]
  repeat refine Bc.set ?_ rfl
  exact k2.trans (Bc.sub k3 rfl)
 have jm:E4.get 13= .ptr 6 0:=by rw[<- OH];simp[Tr.na];exact (k3 13 (by simp)).trans jm
 have bC:E4.get 114= .pv (ae ed):=by rw[<- OH];simp[Tr.na]
 have eC:E4.get 115= .pv (aa ed.length):=by rw[<- OH];simp[Tr.na]
 have gz:E4.get 116= .pv (aa 0):=by rw[<- OH];simp[Tr.na]
 refine Bb (kai E4 ((k4 8 (by simp)).trans h8) jm ((k4 101 (by simp)).trans h101) ((k4 102 (by simp)).trans h102) ((k4 103 (by simp)).trans h103) bC eC gz) ?_;rintro r ⟨_,E5,rfl,k5⟩;have k5:Bc [8,13,101,102,103] E4 E5:=k5;have k5':Bc [8,101,102,103] E E5:=k4.trans (Bc.sub k5 rfl)
 have z8:=(k5' 8 (by simp)).trans h8
 have Pas:=(k5' 103 (by simp)).trans h103
 have z13:=(k5 13 (by simp)).trans jm
 have p2:∀ d,place (A0++[b8 (Ki ed)]) d (.ptr 2 0)=some (.ptr 2 (0+d)):=fun d=>Cm (by rw[<- ju];rfl) d 0;have l2:wa (A0++[b8 (Ki ed)]) false 1 (.ptr 2 2)=some (.uq 3 nl 256 es):=by rw[<- ju];rfl
 have u2:wa (A0++[b8 (Ki ed)]) true 256 (.ptr 6 0)=some (.pv (ql ed)):=by
  have rB:(A0++[b8 (Ki ed)])[6]? =some (b8 (Ki ed)):=by rw[<- ju];rfl
  have hl:(cellsOf 256 fun b=>AV.pv (.int .i8 (Ki ed b))).length=256:=Rq _ _
  have:cellsOf 256 (fun b=>AV.pv (.int .i8 (Ki ed b)))=((List.range 256).map fun b=>PV.int .i8 (Ki ed b)).map .pv:=by rw[cellsOf,Iq];rfl
  rw[wa,rB];show tg true 256 (cellsOf 256 fun b=>AV.pv (.int .i8 (Ki ed b))) 0=_;rw[tg,if_pos rfl,if_pos (by rw[hl];exact gb _),Un,Ih (by rw[hl];exact gb _),this,mq,So.Sk];rfl
 have iy:Ud (A0++[b8 (Ki ed)]) false .uq 256 true 256 (.uq 3 nl 256 es) (.pv (.lit 256 [ql ed]))=some (.uq 3 false 256 (es++[ql ed]),[o0,o1,.box [c0,c1,.uq 3 nl 256 es,c3,c4,c5],.tok 256 (es.length+1) false,o4,o5,b8 (Ki ed)]):=by rw[<- ju];simp only[Ud,Vf,Bg,Sg,Kf,Jj,Kj,if_true,Lc,Td,Ch];rw[qa (by simp)];rw[if_pos ⟨trivial,trivial,trivial,by unfold Ac;omega⟩];simp
 have p3:∀ d,place [o0,o1,.box [c0,c1,.uq 3 nl 256 es,c3,c4,c5],.tok 256 (es.length+1) false,o4,o5,b8 (Ki ed)] d (.ptr 2 0)=some (.ptr 2 (0+d)):=fun d=>Cm rfl d 0;have s3:Db [o0,o1,.box [c0,c1,.uq 3 nl 256 es,c3,c4,c5],.tok 256 (es.length+1) false,o4,o5,b8 (Ki ed)] 1 (.ptr 2 2) (.uq 3 false 256 (es++[ql ed]))=some (Vf o0 o1 o4 o5 c0 c1 c3 c4 c5 false (es++[ql ed])++[b8 (Ki ed)]):=by
  have:(es++[ql ed]).length=es.length+1:=by simp
  unfold Vf;rw[this];rfl
 obtain⟨N,hN⟩:∃ N,N=(List.range 256).map fun b=>PV.int .i8 (Ki ed b):=⟨_,rfl⟩
 have QY:N.length=256:=by rw[hN,wb,Wn]
 have hNo:(N.map AV.pv).all AV.one=true:=by rw[hN,Df];intro x hx;rw[Re] at hx;obtain⟨y,hy,rfl⟩:=hx;rw[Re] at hy;obtain⟨z,_,rfl⟩:=hy;rfl
 have PY:ql ed= .agg N:=by rw[hN];rfl
 rw[PY] at u2 iy s3 hQ;have m0:(PV.agg N).cells=N:=rfl
 have m1:za (List.map AV.pv (List.replicate 256 (PV.int .i8 0))++[]) 0 (N.map .pv)=N.map .pv:=w8 (by rw[wb,Pc,wb,Gq,QY];rfl)
 have m2:(N.map AV.pv).length=256:=by rw[wb,QY]
 have m3:=So.Sk N
 have m5:(256<=(List.map AV.pv (List.replicate 256 (PV.int .i8 0))++[]).length)=True:=Sa (by rw[Pc,wb,Gq];exact Nat.le_add_right _ _);have m6:List.take 256 N=N:=Ih (by omega)
 clear hN PY;simp -implicitDefEqProofs only[SP,WP,za,sevalprocAttr,-List.reduceReplicate,z8,Pas,z13,p2,l2,u2,iy,p3,s3,t1,m0,m1,m2,m3,m5,m6,hNo];subst hQ;refine⟨_,rfl,?_,by simp[Tr.na]⟩
 repeat refine Bc.set ?_ rfl
 exact Bc.sub k5' rfl
end
theorem cU{p:Int×Int}(h0:0<=p.1)(h1:p.1<=p.2):((vi 0 p).length:Int)=p.2 - p.1+1:=by
 rw[P3 h0 h1,wb,Wn];omega
theorem Q3{p:Int×Int}(h0:0<=p.1)(h1:p.1<=p.2){k:Nat}(hk:(k:Int) < p.2 - p.1+1):(vi 0 p)[k]? =some (p.1+k):=by
 rw[P3 h0 h1,Gd,Pz (by omega)];rfl
theorem FN{top:Int}:∀ {l:List (Int×Int)}{last:Int}(n:Int),Ub top last l=true->Tb n l=n+(Xf l).length
 | [],_,n,_=>by simp[Tb,Xf]
 |p::l,last,n,h=>by
  obtain⟨h1,h2,h3,h4,h5⟩:=ik h;replace h1:0<=p.1:=by omega
  replace h2:p.1<=p.2:=by omega
  have hl:=cU h1 h2;rw[Tb,FN _ h5,Xf,Pc];omega
theorem QI{top:Int}:∀ {l:List (Int×Int)}{last:Int}{n x:Int}{k:Nat},Ub top last l=true->(Xf l)[k]? =some x->Ld x n l=(n+k,true)/\0<=x/\x<=top/\last+1 < x
 | [],_,n,x,k,_,hk=>by simp[Xf] at hk
 |p::l,last,n,x,k,h,hk=>by
  obtain⟨h1,h2,h3,h4,h5⟩:=ik h;replace h1:0<=p.1:=by omega
  replace h2:p.1<=p.2:=by omega
  have hl:=cU h1 h2;rw[Xf] at hk;rcases yd k (vi 0 p).length with hlt | hge
  ·rw[Kc hlt,Q3 h1 h2 (by omega)] at hk
   injection hk with hk
   subst hk;rw[Ld,qa (by omega),if_pos (by omega)];exact⟨by rw[Jb];exact⟨by omega,rfl⟩,by omega,by omega,by omega⟩
  ·rw[Tg hge] at hk
   obtain⟨g1,g2,g3,g4⟩:=QI (n:=n+(p.2 - p.1+1)) h5 hk;rw[Ld,qa (by omega),qa (by omega),g1];exact⟨by rw[Jb];exact⟨by omega,rfl⟩,g2,g3,by omega⟩
theorem dU{top:Int}:∀ {l:List (Int×Int)}{last:Int}{n x:Int},Ub top last l=true->(Ld x n l).2=true->∃ k:Nat,(Xf l)[k]? =some x/\(Ld x n l).1=n+k
 | [],_,n,x,_,hk=>by simp[Ld] at hk
 |p::l,last,n,x,h,hk=>by
  obtain⟨h1,h2,h3,h4,h5⟩:=ik h;replace h1:0<=p.1:=by omega
  replace h2:p.1<=p.2:=by omega
  have hl:=cU h1 h2;rw[Ld] at hk ⊢
  by_cases c1:x < p.1
  ·rw[if_pos c1] at hk;cases hk
  ·rw[qa c1] at hk ⊢
   by_cases c2:x<=p.2
   ·rw[if_pos c2]
    refine⟨(x - p.1).toNat,?_,by show n+x - p.1=_;omega⟩;rw[Xf,Kc (by omega),Q3 h1 h2 (by omega)]
    congr 1;omega
   ·rw[qa c2] at hk ⊢
    obtain⟨k,g1,g2⟩:=dU h5 hk;refine⟨(vi 0 p).length+k,?_,by rw[g2];omega⟩;rw[Xf,Tg (by omega),Uz];exact g1
theorem b6:∀ (l:List (Int×Int)),Ha gF (Pa l)=some l
 | []=>rfl
 |p::l=>by
  show (gF (pr p)).bind _=_
  have:gF (pr p)=some p:=rfl;rw[this,Lc];show ((Ha gF (Pa l)).bind fun bs=>some (p::bs))=_;rw[b6 l];rfl
theorem Yan{v:PV}{l:List (Int×Int)}(h:Pb 2 v (Pa l)):cJ v=some l:=by
 rcases h with⟨rfl,h⟩ | rfl
 ·cases l with
  |nil=>rfl
  |cons p l=>cases h
 ·exact b6 l
theorem laa{v:PV}{l:List (Int×Int)}(h:Pb 2 v (Pa l))(hv:Ub 255 (-2) l=true)(hlen:l.length<=4611686018427387904):
 ux [.rp [v] 0,.rp [aa 0] 0]=some ((Xf l).map fun x=>[aa x]):=by
 have oN:l.all KO=true:=by
  have:∀ (l:List (Int×Int))(last:Int),Ub 255 last l=true->l.all KO=true:=by
   intro l
   induction l with
   |nil=>intro _ _;rfl
   |cons p l ih=>intro last h;obtain⟨h1,h2,h3,h4,h5⟩:=ik h;rw[tm,ih _ h5,wz];exact decide_eq_true (by omega)
  exact this l _ hv
 simp only[ux,Yan h,Lc,oN,ng];rw[if_pos (decide_eq_true (by omega)),Pal]
theorem Maq{v:PV}{l:List (Int×Int)}(hv:sx v l)(hp:Se l):∃ u,Pb 2 u (Pa l)/\∀ H,La Kt 8 39 [.pv v,.pv (aa 0)] H=some (.Ec 35 [.pv (.rp [u] 0),.pv (.rp [aa 0] 0)],H):=by
 obtain⟨u,q1,q2⟩:=M8 v l hv.is hv.sz
 rw[ZU hp.2] at q2;refine⟨u,q2,fun H=> ?_⟩;have hu1:(AV.pv u).one=true:=by rcases q2 with⟨h,_⟩ | h <;> rw[h] <;> rfl
 have huc:(AV.pv u).cells=[.pv u]:=by rcases q2 with⟨h,_⟩ | h <;> rw[h] <;> rfl
 have c38:Kt 38=some oL:=rfl;rw[Dm Kt 7 39 _ H (f:=CD) rfl];simp -implicitDefEqProofs only[SX,sevalprocAttr,CD,oL,q1,c38,hu1,huc]
def xC(v:AV)(H:List fa)(es:List PV):Prop:=(es=[]/\v= .pv .oa)\/(∃ tk,es≠[]/\v= .uq tk false 1 es/\H[tk]? =some (.tok 1 es.length false))
theorem fas{x:Int}(h0:0<=x)(h1:x<=255):IntKind.u8.wrap x=x:=by
 unfold IntKind.wrap
 simp[IntKind.signed,IntKind.bits];omega
theorem eas{x:Int}(h0:0<=x)(h1:x<=65535):IntKind.u16.wrap x=x:=by
 unfold IntKind.wrap
 simp[IntKind.signed,IntKind.bits];omega
theorem Cam(call:Ab){e:Tr}{H:List fa}{bx oid m off fl:Nat}{g:Nat->AV}{x:Int}{es:List PV}(h6:e.get 6= .ptr bx 0)(h7:e.get 7= .pv (aa x))(hb:H[bx]? =some (.box [.Sb oid m off]))(ho:H[oid]? =some (.seq 258 true (cellsOf m g) fl false))
 (hoff:off+258<=m) (QE:0<=x) (hx1:x<=255) (hB:xC (g off) H es) (hlen:es.length<=255):
 ∃ s' Qd v,Qd<=m/\ua call uG ⟨e,H⟩=some (.norm,s')/\s'.H[bx]? =some (.box [.Sb oid m off])/\
  s'.H[oid]? =some (.seq 258 true (cellsOf m (Gl (Gl g off v) (off+1+x.toNat) (.pv (.int .u16 (es.length+1))))) Qd false)/\xC v s'.H (es++[.int .u8 x])/\∀ (j:Nat) c,H[j]? =some (.box c)->s'.H[j]? =some (.box c):=by
 have qE:bx≠oid:=by intro e;subst e;rw[hb] at ho;cases ho
 have wx:=fas QE hx1;have l6:wa H false 1 (.ptr bx 0)=some (.Sb oid m off):=by simp[wa,hb,tg]
 have lo:=XU (off:=off) ho rfl (by omega);have po:∀ d,place H d (.Sb oid m off)=some (.Sb oid m (off+d)):=fun d=>uJ ho rfl;have app:∃ v H1,Ud H false .uq 1 false 1 (g off) (.pv (.lit 1 [.int .u8 x]))=some (v,H1)/\xC v H1 (es++[.int .u8 x])/\H1[bx]? =some (.box [.Sb oid m off])/\H1[oid]? =some (.seq 258 true (cellsOf m g) fl false)/\v.cells=[v]/\v.one=true/\(∀ K,mb K 0 v=some (es.length+1))/\∀ (j:Nat) c,H[j]? =some (.box c)->H1[j]? =some (.box c):=by
  rcases hB with⟨rfl,hg⟩ | ⟨tk,Va,hg,od⟩
  ·refine⟨.uq H.length false 1 [.int .u8 x],H++[.tok 1 1 false],by rw[hg];simp[Ud,Bg,Dr],.inr ⟨H.length,by simp,rfl,by simp⟩,?_,?_,rfl,rfl,fun _=>rfl,fun j c hj=>by rw[getElem?_push (getElem?_lt hj)];exact hj⟩
   ·rw[getElem?_push (getElem?_lt hb)];exact hb
   ·rw[getElem?_push (getElem?_lt ho)];exact ho
  ·have h1:tk≠bx:=by intro e;subst e;rw[hb] at od;cases od
   have h2:tk≠oid:=by intro e;subst e;rw[ho] at od;cases od
   refine⟨.uq tk false 1 (es++[.int .u8 x]),H.set tk (.tok 1 (es.length+1) false),?_,.inr ⟨tk,by simp,rfl,by rw[Of (getElem?_lt od)];simp⟩,?_,?_,rfl,rfl,fun _=>by simp[mb],fun j c hj=>by rw[ze (fun e=>by subst e;rw[od] at hj;cases hj)];exact hj⟩
   ·rw[hg];simp[Ud,Bg,od];omega
   ·rw[ze h1];exact hb
   ·rw[ze h2];exact ho
 obtain⟨v,H1,ha,Ms,ff,FE,hv1,hv2,Oy,Iah⟩:=app;have po1:∀ d,place H1 d (.Sb oid m off)=some (.Sb oid m (off+d)):=fun d=>uJ FE rfl;have st1:=YU (off:=off) FE rfl (by omega) hv1 hv2;generalize Ri:H1.set oid (.seq 258 true (cellsOf m (Gl g off v)) m false)=H2 at st1
 have Vd:H2[bx]? =some (.box [.Sb oid m off]):=by rw[<- Ri,ze (tf qE)];exact ff
 have Vp:H2[oid]? =some (.seq 258 true (cellsOf m (Gl g off v)) m false):=by rw[<- Ri,Of (getElem?_lt FE)]
 have l62:wa H2 false 1 (.ptr bx 0)=some (.Sb oid m off):=by simp[wa,Vd,tg]
 have P2:=XU (off:=off) Vp rfl (by omega);rw[CJ] at P2;have po2:∀ d off',place H2 d (.Sb oid m off')=some (.Sb oid m (off'+d)):=fun d off'=>uJ Vp rfl;have w2:IntKind.u16.wrap ((es.length+1:Nat):Int)=(es.length:Int)+1:=by rw[eas (by omega) (by omega)];omega
 have st2:=YU (off:=off+1+x.toNat) (v:= .pv (.int .u16 ((es.length:Int)+1))) Vp rfl (by omega) rfl rfl;have YM:(0<=x/\x < ((256:Nat):Int))=True:=Sa (by omega);generalize Jp:H2.set oid (.seq 258 true (cellsOf m (Gl (Gl g off v) (off+1+x.toNat) (.pv (.int .u16 ((es.length:Int)+1))))) m false)=H3 at st2
 have key:Ia (fun r=>r.1= .norm/\r.2.H=H3) (ua call uG ⟨e,H⟩):=by
  clear hB Ms hb ho ff FE Vd Vp Ri Jp;have My:za [AV.pv (PV.int .u8 0)] 0 [AV.pv (PV.int .u8 x)]=[AV.pv (PV.int .u8 x)]:=rfl;have qS:([AV.pv (PV.int .u8 x)].all AV.one=true)=True:=Sa rfl;have hfr:fresh H .lit 1 false 1 [AV.pv (PV.int .u8 x)]=some (.pv (.lit 1 [.int .u8 x]),H):=rfl
  generalize hQ:(fun r:Ex×St=>r.1=Ex.norm/\_)=Q;simp -implicitDefEqProofs only[SX,sevalprocAttr,uG,h6,h7,l6,lo,po,wx,ha,po1,st1,l62,P2,po2,Oy,w2,YM,st2,My,qS,hfr];subst hQ;exact⟨rfl,rfl⟩
 obtain⟨⟨ex,s'⟩,h1,h2,h3⟩:=wg key;simp only at h2 h3;subst h2;refine⟨s',m,v,gb _,h1,?_,?_,?_,fun j c hj=> ?_⟩
 ·rw[h3,<-Jp,ze (tf qE)];exact Vd
 ·rw[h3,<-Jp];exact Of (getElem?_lt Vp)
 ·rcases Ms with h | ⟨tk,q1,q2,q3⟩
  ·exact .inl h
  ·have h4:tk≠oid:=by intro e;subst e;rw[FE] at q3;cases q3
   refine .inr ⟨tk,q1,q2,?_⟩
   rw[h3,<-Jp,ze (tf h4),<-Ri,ze (tf h4)];exact q3
 ·have Au:=Iah j c hj
  have Va:oid≠j:=fun e=>by subst e;rw[FE] at Au;cases Au
  rw[h3,<-Jp,ze Va,<-Ri,ze Va];exact Au
def BJ(x:Int):PV:= .int .u8 x
theorem of_inner(call:Ab){e:Tr}{bx oid m off:Nat}(h6:e.get 6= .ptr bx 0)(hoff:off+258<=m):∀ (xs:List Int){H:List fa}{fl:Nat}{g:Nat->AV}{es:List PV},H[bx]? =some (.box [.Sb oid m off])->H[oid]? =some (.seq 258 true (cellsOf m g) fl false)->
 (∀ x∈xs,0<=x/\x<=255)->xs.Nodup->xC (g off) H es->es.length+xs.length<=256->
 ∃ H' Qd g',(fl<=m->Qd<=m)/\Fj (fun x H=>ua call uG ⟨Xo [(7,40)] (om [40] x e),H⟩) (xs.map fun x=>[aa x]) H=some (.norm,H')/\H'[bx]? =some (.box [.Sb oid m off])/\H'[oid]? =some (.seq 258 true (cellsOf m g') Qd false)/\
  xC (g' off) H' (es++xs.map BJ)/\(∀ j,j≠off->(∀ x∈xs,j≠off+1+x.toNat)->g' j=g j)/\(∀ (k:Nat) x,xs[k]? =some x->g' (off+1+x.toNat)= .pv (.int .u16 ((es.length+k:Nat)+1)))/\∀ (j:Nat) c,H[j]? =some (.box c)->H'[j]? =some (.box c):=by
 intro xs
 induction xs with
 |nil=>intro H fl g es hb ho _ _ hB _;exact⟨H,fl,g,id,rfl,hb,ho,by simpa using hB,fun _ _ _=>rfl,fun k x h=>by simp at h,fun _ _ h=>h⟩
 |cons x xs ih=>
  intro H fl g es hb ho hx Tp hB hlen;obtain⟨QE,hx1⟩:=hx x (by simp);have qI:=List.nodup_cons.1 Tp
  have e6:(Xo [(7,40)] (om [40] [aa x] e)).get 6= .ptr bx 0:=by simp[Xo,om,Tr.na,h6]
  have e7:(Xo [(7,40)] (om [40] [aa x] e)).get 7= .pv (aa x):=by simp[Xo,om,Tr.na]
  obtain⟨s',Qd,v,q0,q1,q2,q3,q4,q5⟩:=Cam call e6 e7 hb ho hoff QE hx1 hB (by simp at hlen;omega);have Va:off≠off+1+x.toNat:=by omega
  obtain⟨H',OR,g',r0,r1,r2,r3,r4,r5,r6,r7⟩:=ih (es:=es++[BJ x]) q2 q3 (fun y hy=>hx y (by simp[hy])) qI.2 (by rw[uC _ _ Va,CJ];exact q4) (by simp at hlen ⊢;omega)
  refine⟨H',OR,g',fun _=>r0 q0,?_,r2,r3,by simpa using r4,fun j h1 h2=> ?_,fun k y hk=> ?_,fun j c hj=>r7 j c (q5 j c hj)⟩
  ·simp only[Pf,Fj,q1,Qn];exact r1
  ·rw[r5 j h1 fun y hy=>h2 y (by simp[hy]),uC _ _ (h2 x (by simp)),uC _ _ h1]
  ·cases k with
   |zero=>
    simp at hk;subst hk;rw[r5 _ (by omega) (fun y hy e=>by
     have:=(hx y (by simp[hy])).1
     have:y=x:=by omega
     subst this;exact qI.1 hy),CJ]
    simp
   |succ k=>
    have:=r6 k y (by simpa using hk);rw[this]
    congr 3
    simp;omega
theorem Aam{e:Tr}{H:List fa}{s:ya}{P:PV}{ps:List PV}{sb oid fl i:Nat}{prod:Int}{g:Nat->AV}(hp:sk P s.ba ps)(hi:i < s.ba.length)(ga:Se s.ba[i])
 (h1:e.get 1= .pv (.rp [P,aa s.pa] 0)) (h3:e.get 3= .ptr sb 0) (h4:e.get 4= .pv (aa prod)) (h5:e.get 5= .pv (aa i)) (hs:H[sb]? =some (.box [.own oid s.ba.length])) (ho:H[oid]? =some (.seq 258 true (cellsOf (s.ba.length * 258) g) fl false))
 (hg:g (i * 258)= .pv .oa) (hw:IntKind.i64.wrap (prod * (Xf s.ba[i]).length)=prod * (Xf s.ba[i]).length) (Tp:(Xf s.ba[i]).Nodup) (tr:(Xf s.ba[i]).length<=256) (dT:∀ x∈Xf s.ba[i],0<=x/\x<=255) (Va:Xf s.ba[i]≠[]) (hfl:fl<=s.ba.length * 258) (hi2:i<=4611686018427387904):
 Ia (fun r=>r.1= .norm/\r.2.env.get 1= .pv (.rp [P,aa s.pa] 0)/\r.2.env.get 3= .ptr sb 0/\r.2.env.get 4= .pv (aa (prod * (Xf s.ba[i]).length))/\r.2.env.get 5= .pv (aa (i - 1))/\r.2.H[sb]? =some (.box [.own oid s.ba.length])/\
  ∃ Qd g',Qd<=s.ba.length * 258/\r.2.H[oid]? =some (.seq 258 true (cellsOf (s.ba.length * 258) g') Qd false)/\xC (g' (i * 258)) r.2.H ((Xf s.ba[i]).map BJ)/\(∀ j,j≠i * 258->(∀ x∈Xf s.ba[i],j≠i * 258+1+x.toNat)->g' j=Gl g (i * 258+257) (.pv (aa prod)) j)/\∀ (k:Nat) x,(Xf s.ba[i])[k]? =some x->g' (i * 258+1+x.toNat)= .pv (.int .u16 ((k:Nat)+1))) (ua (La Kt 8) tG ⟨e,H⟩):=by
 obtain⟨v,hv1,hv2,Oy⟩:=hp.get hi
 obtain⟨u,hu,Rh⟩:=Maq Oy ga;have En:sb≠oid:=by intro e;subst e;rw[hs] at ho;cases ho
 have hlt:=getElem?_lt hs;have sg:=getElem?_lt ho;generalize hl:s.ba[i]=l at *
 clear hl hp;generalize hn:s.ba.length=n at *
 have p3:place H 0 (.ptr sb 0)=some (.ptr sb 0):=by simp[place,hs]
 have l3:wa H false 1 (.ptr sb 0)=some (.own oid n):=by simp[wa,hs,tg]
 have ia:Ua H 258 (.own oid n) (i:Int)=some (.Sb oid (n * 258) (i * 258)):=by simp only[Ua,ho,Rq];rw[if_pos ⟨trivial,by unfold Ta;omega,by unfold bh;omega⟩];simp
 have Ri:(H++[fa.box [.pv .Ic]]).set H.length (.box [.Sb oid (n * 258) (i * 258)])=H++[fa.box [.Sb oid (n * 258) (i * 258)]]:=by rw[Po _ _ (gb _)];simp
 have rj:Db (H++[fa.box [.pv .Ic]]) 1 (.ptr H.length 0) (.Sb oid (n * 258) (i * 258))=some (H++[fa.box [.Sb oid (n * 258) (i * 258)]]):=by rw[<- Ri];simp[Db,AV.cells,AV.one,za]
 have Vd:(H++[fa.box [.Sb oid (n * 258) (i * 258)]])[H.length]? =some (.box [.Sb oid (n * 258) (i * 258)]):=by simp
 have Vp:(H++[fa.box [.Sb oid (n * 258) (i * 258)]])[oid]? =some (.seq 258 true (cellsOf (n * 258) g) fl false):=by rw[getElem?_push sg];exact ho
 have yr:(H++[fa.box [.Sb oid (n * 258) (i * 258)]])[sb]? =some (.box [.own oid n]):=by rw[getElem?_push hlt];exact hs
 generalize H++[fa.box [.Sb oid (n * 258) (i * 258)]]=H2 at *;have l6:wa H2 false 1 (.ptr H.length 0)=some (.Sb oid (n * 258) (i * 258)):=by simp[wa,Vd,tg]
 have p6:∀ d,place H2 d (.Sb oid (n * 258) (i * 258))=some (.Sb oid (n * 258) (i * 258+d)):=fun d=>uJ Vp rfl;have st1:=YU (off:=i * 258+257) (v:= .pv (aa prod)) Vp rfl (by omega) rfl rfl;have qE:H.length≠oid:=by omega
 have iw:(H2.set oid (.seq 258 true (cellsOf (n * 258) (Gl g (i * 258+257) (.pv (aa prod)))) (n * 258) false))[sb]? =some (.box [.own oid n]):=by rw[ze (tf En)];exact yr
 have cB:(H2.set oid (.seq 258 true (cellsOf (n * 258) (Gl g (i * 258+257) (.pv (aa prod)))) (n * 258) false))[H.length]? =some (.box [.Sb oid (n * 258) (i * 258)]):=by rw[ze (tf qE)];exact Vd
 have ho3:(H2.set oid (.seq 258 true (cellsOf (n * 258) (Gl g (i * 258+257) (.pv (aa prod)))) (n * 258) false))[oid]? =some (.seq 258 true (cellsOf (n * 258) (Gl g (i * 258+257) (.pv (aa prod)))) (n * 258) false):=Of (getElem?_lt Vp);generalize H2.set oid (.seq 258 true (cellsOf (n * 258) (Gl g (i * 258+257) (.pv (aa prod)))) (n * 258) false)=H3 at *
 have w5:decide ((i:Int)>=0)=true:=decide_eq_true (by omega);have r0:∀ H (x y:PV),wa H false 1 (.pv (.rp [x,y] 0))=some (.pv x):=fun H x y=>rfl;have q0:∀ H (x y:PV),place H 0 (.pv (.rp [x,y] 0))=some (.pv (.rp [x,y] 0)):=fun H x y=>rfl;have il:∀ H,Ua H 1 (.pv P) (i:Int)=some (.pv (.rp v.cells 0)):=by
  intro H;subst hv2;have hq:i < ps.length:=getElem?_lt hv1
  simp only[Ua];rw[if_pos ⟨trivial,by unfold Ta;omega⟩,Uc,hv1];rfl
 have CT:v.cells=[v]:=by rcases Oy.is with⟨h,_⟩ | h <;> rw[h] <;> rfl
 rw[CT] at il;have r1:∀ H (x:PV),wa H false 1 (.pv (.rp [x] 0))=some (.pv x):=fun H x=>rfl;have Sp:=XO ga.2
 have rv:lz 35 ux 1 (.Ec 35 [.pv (.rp [u] 0),.pv (.rp [aa 0] 0)])=some ((Xf l).map fun x=>[aa x]):=by
  have:((Xf l).map fun x=>[aa x]).all (qU 1)=true:=by
   rw[Df];intro y hy;obtain⟨x,_,rfl⟩:=Re.1 hy
   rfl
  simp[lz,bd,laa hu ga.2 (by omega)];exact fun _ _=>rfl
 have c39:Kt 39=some CD:=rfl;have wah:=fun H=>(Dm Kt 7 39 [AV.pv v,AV.pv (aa 0)] H (f:=CD) rfl).symm.trans (Rh H)
 generalize hQ:(fun r:Ex×St=>r.1=Ex.norm/\_)=Q;simp -implicitDefEqProofs only[SX,sevalprocAttr,tG,caa,h1,h3,h4,h5,p3,l3,ia,rj,l6,p6,st1,w5,r0,q0,il,r1,c39,wah,rv,iz];have Tf:=fun (E:Tr)(h6:E.get 6= .ptr H.length 0)=>of_inner (La Kt 8) (e:=E) h6 (off:=i * 258) (m:=n * 258) (by omega) (Xf l) (es:=[]) cB ho3 dT Tp (.inl ⟨rfl,by rw[uC _ _ (by omega)];exact hg⟩) (by simpa using tr);generalize vc:(Tr.set _ 39 _:Tr)=E;have e6:E.get 6= .ptr H.length 0:=by rw[<- vc];simp[Tr.na]
 have e1:E.get 1= .pv (.rp [P,aa s.pa] 0):=by rw[<- vc];simp[Tr.na,h1]
 have e3:E.get 3= .ptr sb 0:=by rw[<- vc];simp[Tr.na,h3]
 have e4:E.get 4= .pv (aa prod):=by rw[<- vc];simp[Tr.na,h4]
 have e5:E.get 5= .pv (aa i):=by rw[<- vc];simp[Tr.na,h5]
 clear vc;obtain⟨H4,fl4,g4,q0,q1,q2,q3,q4,q5,q6,q7⟩:=Tf E e6;rw[q1];have l64:wa H4 false 1 (.ptr H.length 0)=some (.Sb oid (n * 258) (i * 258)):=by simp[wa,q2,tg]
 have p66:∀ d,place H4 d (.Sb oid (n * 258) (i * 258))=some (.Sb oid (n * 258) (i * 258+d)):=fun d=>uJ q3 rfl;have l67:=XU (off:=i * 258) q3 rfl (by omega);have ln:∀ K,mb K 0 (g4 (i * 258))=some (Xf l).length:=by
  rcases q4 with⟨h,_⟩ | ⟨tk,_,h,_⟩
  ·simp at h;exact absurd h Va
  ·intro K;rw[h];simp[mb]
 have w1:IntKind.i64.wrap ((i:Int) - 1)=(i:Int) - 1:=Gb (by omega)
 simp -implicitDefEqProofs only[SX,sevalprocAttr,VD,e6,e1,e3,e4,e5,l64,p66,l67,ln,hw,w1];subst hQ;refine⟨rfl,?_,?_,?_,?_,?_,fl4,g4,q0 (gb _),q3,by simpa using q4,q5,fun k x hk=>by simpa using q6 k x hk⟩ <;> first | exact q7 _ _ iw | simp[Tr.na,e1,e3]
abbrev ig(w:List Nat):List Int:=w.map fun (n:Nat)=>(n:Int)
theorem S6{l:List (Int×Int)}(hl:Se l)(x:Nat):(Ld (x:Int) 0 l).2=Ge l x:=by
 rw[<- ZY];unfold bB;rw[ZU hl.2]
theorem Q6:∀ (ls:List (List (Int×Int)))(w:List Nat)(k:Int),(∀ l∈ls,Se l)->w.length=ls.length->((Uh ls (ig w) k).isSome↔∀ (j x:Nat) l,w[j]? =some x->ls[j]? =some l->Ge l x=true)
 | [],w,k,_,hl=>by have:w=[]:=Ze hl;subst this;rw[gJ];simp
 |l::ls,[],k,_,hl=>by simp at hl
 |l::ls,y::w,k,h,hl=>by
  have hp:=h l (by simp);show (Uh (l::ls) ((y:Int)::ig w) k).isSome↔_
  rw[Uh,S6 hp]
  split
  ·next hm=>
   rw[Q6 ls w _ (fun x hx=>h x (by simp[hx])) (by simpa using hl)];constructor
   ·intro h1 j x l' hj Uf
    cases j with
    |zero=>simp at hj Uf;subst hj Uf;exact hm
    |succ j=>exact h1 j x l' (by simpa using hj) (by simpa using Uf)
   ·intro h1 j x l' hj Uf
    exact h1 (j+1) x l' (by simpa using hj) (by simpa using Uf)
  ·next hm=>
   constructor
   ·intro h1;cases h1
   ·intro h1;exact absurd (h1 0 y l rfl rfl) hm
theorem O3{s:ya}{j x:Nat}:Ek s j x=true↔∃ l,s.ba[j]? =some l/\Ge l x=true:=by
 unfold Ek;cases s.ba[j]? <;> simp
theorem zao{s:ya}(h:Yd s)(w:List Nat):(Zg s (ig w)).isSome↔Full s w:=by
 unfold Zg Full
 by_cases hl:w.length=s.ba.length
 ·rw[if_pos (by rw[wb];exact hl),Q6 _ _ _ h.ba hl]
  unfold uh;constructor
  ·intro h1
   refine⟨fun j x hj=> ?_,hl⟩;have zy:=(Ad.1 hj).1
   have Mh:s.ba[j]? =some s.ba[j]:=Rb (by omega)
   exact O3.2 ⟨_,Mh,h1 j x _ hj Mh⟩
  ·rintro⟨h1,_⟩ j x l hj Mh
   obtain⟨l',h3,h4⟩:=O3.1 (h1 j x hj)
   rw[Mh] at h3;injection h3 with h3;subst h3;exact h4
 ·rw[qa (by rw[wb];exact hl)]
  constructor
  ·intro h1;cases h1
  ·intro h1;exact absurd h1.2 hl
theorem P6:∀ (ls:List (List (Int×Int)))(b:List Int)(k k':Int),(∀ l∈ls,Se l)->Uh ls b k=some k'->k<=k'/\k' < k+eb ls
 | [],b,k,k',_,h=>by rw[gJ] at h;injection h with h;subst h;rw[eb];omega
 |l::ls,[],k,k',hp,h=>by
  rw[Uh] at h
  ·injection h with h;subst h
   have:=Ik hp;omega
  ·intro _ _ _ _ h2 h3;cases h3
 |l::ls,y::b,k,k',hp,h=>by
  rw[Uh] at h
  split at h
  ·next hc=>
   have h0:=hp l (by simp);have hb:=sF (x:=y) (n:=0) h0.2 hc
   obtain⟨h1,h2⟩:=P6 ls b _ _ (fun x hx=>hp x (by simp[hx])) h;have h3:=Ik (ls:=ls) fun x hx=>hp x (by simp[hx]);have h4:0<=(Ld y 0 l).1 * eb ls:=Int.mul_nonneg hb.1 (by omega)
   have h5:((Ld y 0 l).1+1) * eb ls<=Tb 0 l * eb ls:=vK (by omega) (by omega);rw[Int.add_mul,NC] at h5;rw[eb,xx (eb ls)];omega
  ·cases h
theorem yao{s:ya}(h:Yd s){b:List Int}{k:Int}(hk:Zg s b=some k):0<=k/\s.pa+k<=1073741823:=by
 unfold Zg at hk
 split at hk
 ·obtain⟨h1,h2⟩:=P6 _ _ _ _ h.ba hk
  have h3:=h.last
  rw[h.Ng] at h3;omega
 ·cases hk
def sJ:Int->List (Int×Int)->Option Int
 |_,[]=>none
 |k,p::r=>if k<=p.2 - p.1 then some (p.1+k) else sJ (k - (p.2 - p.1+1)) r
theorem zO{top:Int}:∀ {l:List (Int×Int)}{last k:Int},Ub top last l=true->0<=k->k < Tb 0 l->∃ x,sJ k l=some x/\0<=x/\x<=top/\last+1 < x/\∀ n,Ld x n l=(n+k,true)
 | [],last,k,_,h0,h1=>by simp[Tb] at h1;omega
 |p::l,last,k,hv,h0,h1=>by
  obtain⟨v1,v2,v3,v4,v5⟩:=ik hv;rw[Tb,fV] at h1;rw[sJ]
  by_cases c:k<=p.2 - p.1
  ·rw[if_pos c]
   refine⟨_,rfl,by omega,by omega,by omega,fun n=> ?_⟩;rw[Ld,qa (by omega),if_pos (by omega)]
   congr 1;omega
  ·rw[qa c]
   obtain⟨x,q1,q2,q3,q4,q5⟩:=zO (k:=k - (p.2 - p.1+1)) v5 (by omega) (by omega);refine⟨x,q1,q2,q3,by omega,fun n=> ?_⟩;rw[Ld,qa (by omega),qa (by omega),q5]
   congr 1;omega
theorem vaq{e:PV}{s:ya}{P:PV}{ps:List PV}(h:Yh e s P ps)(ga:Yd s):pK [e]=some (aa (eb s.ba)):=by
 obtain⟨b1,ff,ZH⟩:=FO h;have:=ZH.2 ga
 subst this;have zc:=S8 h ga;have Me:=h.zm.1
 have heq:=h.eq
 subst heq;have i0:∀ H,Ua H 1 (.pv (.lit 1 ((Cl s.ba).map aa))) 0=some (.pv (.rp [aa (eb s.ba)] 0)):=fun H=>by
  have:(Cl s.ba).map aa=aa (eb s.ba)::((Cl s.ba).map aa).tail:=by simp only[Cl,List.range_succ_eq_map,Pf,Un,List.tail_cons]
  rw[this];simp only[Ua];rw[if_pos (by unfold Ta;simp)];rfl
 simp -implicitDefEqProofs only[pK,SX,sevalprocAttr,-List.reduceReplicate,sQ,Me,nm,ff,zc,i0,Xd]
def Rm:List (List (Int×Int))->Int->List Int
 | [],_=>[]
 |l::r,k=>(sJ (k.tdiv (eb r)) l).getD 0::Rm r (k.tmod (eb r))
theorem vX{k p q:Int}(h0:0<=k)(hp:1<=p)(h1:k < p * q):0<=k.tdiv p/\k.tdiv p < q/\0<=k.tmod p/\k.tmod p < p/\k.tdiv p * p+k.tmod p=k:=by
 rw[Int.tdiv_eq_ediv_of_nonneg h0,Int.tmod_eq_emod_of_nonneg h0];refine⟨Int.ediv_nonneg h0 (by omega),Int.ediv_lt_of_lt_mul (by omega) (by rw[xx];exact h1),Int.emod_nonneg _ (by omega),Int.emod_lt_of_pos _ (by omega),?_⟩;rw[xx];exact Int.mul_ediv_add_emod k p
theorem tV:∀ (ls:List (List (Int×Int)))(k n:Int),(∀ l∈ls,Se l)->0<=k->k < eb ls->Uh ls (Rm ls k) n=some (n+k)/\(Rm ls k).length=ls.length/\∀ x∈Rm ls k,0<=x/\x<=255
 | [],k,n,_,h0,h1=>by
   have:k=0:=by rw[eb] at h1;omega
   subst this;exact⟨by rw[gJ,Int.add_zero],rfl,by simp[Rm]⟩
 |l::r,k,n,hp,h0,h1=>by
  have Yl:=Ik (ls:=r) fun x hx=>hp x (by simp[hx]);rw[eb] at h1;obtain⟨d1,d2,d3,d4,d5⟩:=vX h0 Yl h1;obtain⟨x,q1,q2,q3,_,q5⟩:=zO (hp l (by simp)).2 d1 d2
  obtain⟨i1,i2,i3⟩:=tV r (k.tmod (eb r)) (n+k.tdiv (eb r) * eb r) (fun x hx=>hp x (by simp[hx])) d3 d4;rw[Rm,q1,ov,Uh,q5,if_pos rfl];simp only[Int.zero_add];rw[i1];refine⟨by congr 1;omega,by simp[i2],?_⟩;intro y hy;rcases Ae.1 hy with rfl | hy
  ·exact⟨q2,q3⟩
  ·exact i3 y hy
def Uw(l:List (Int×Int))(x:Nat):PV:= .int .u16 (if (Ld (x:Int) 0 l).2 then (Ld (x:Int) 0 l).1+1 else 0)
def Qq(l:List (Int×Int)):PV:= .lit 1 ((Xf l).map BJ)
def Hv(ls:List (List (Int×Int)))(c:Nat):PV:=
 if c % 258=0 then Qq (ls.getD (c / 258) []) else if c % 258=257 then aa (eb (ls.drop (c / 258+1))) else Uw (ls.getD (c / 258) []) (c % 258 - 1)
def Iv(ls:List (List (Int×Int)))(i:Nat):PV:= .agg ((List.range 258).map fun k=>Hv ls (i * 258+k))
def Te(ls:List (List (Int×Int))):PV:= .rp [.lit 258 ((List.range ls.length).map (Iv ls))] 0
def fP(ls:List (List (Int×Int)))(g:Nat->AV)(i:Nat):Prop:=
 (∃ tk,g (i * 258)= .uq tk false 1 ((Xf (ls.getD i [])).map BJ))/\(∀ y:Nat,y < 256->g (i * 258+1+y)= .pv (Uw (ls.getD i []) y))/\g (i * 258+257)= .pv (aa (eb (ls.drop (i+1))))
def gP(g:Nat->AV)(i:Nat):Prop:=g (i * 258)= .pv .oa/\∀ y:Nat,y < 256->g (i * 258+1+y)= .pv (.int .u16 0)
theorem S3{l:List (Int×Int)}(h:Se l):Xf l≠[]:=by
 intro e;have h1:=FN 0 h.2
 rw[e] at h1;have:=(Hr h).1
 simp at h1;omega
theorem Oal{l:List (Int×Int)}(h:Se l):(Xf l).length<=256:=by
 have h1:=FN 0 h.2
 have:=(Hr h).2
 omega
theorem GN{l:List (Int×Int)}(h:Se l):∀ x∈Xf l,0<=x/\x<=255:=by
 intro x hx;obtain⟨k,hk,rfl⟩:=uj hx;have:=QI (n:=0) h.2 (Rb hk)
 exact⟨this.2.1,this.2.2.1⟩
theorem Qal{l:List (Int×Int)}(h:Se l):(Xf l).Nodup:=by
 unfold List.Nodup
 rw[fG];intro i j hi hj hij e;have h1:=(QI (n:=0) h.2 (Rb hi)).1
 have h2:=(QI (n:=0) h.2 (Rb hj)).1
 rw[e,h2] at h1;injection h1 with h1 _
 omega
theorem xas{l:List (Int×Int)}(h:Se l){k:Nat}{x:Int}(hk:(Xf l)[k]? =some x):Uw l x.toNat= .int .u16 ((k:Nat)+1):=by
 obtain⟨h1,h2,_⟩:=QI (n:=0) h.2 hk
 unfold Uw;rw[Ur h2,h1];simp
theorem yas{l:List (Int×Int)}(h:Se l){y:Nat}(hy:(y:Int) ∉ Xf l):Uw l y= .int .u16 0:=by
 unfold Uw;rw[qa];intro hr;obtain⟨k,h1,_⟩:=dU h.2 hr
 exact hy (vj h1)
theorem Tao(z:List PV)(n:Nat):(Yf z n).length=n * z.length:=by
 induction n with
 |zero=>simp[Yf]
 |succ n ih=>rw[Yf,Pc,wb,ih,Nat.add_mul];omega
theorem z7{z:List PV}:∀ {n i k:Nat}{v:PV},i < n->z[k]? =some v->(Yf z n)[i * z.length+k]? =some (.pv v)
 |n+1,0,k,v,_,hk=>by
  have:k < z.length:=getElem?_lt hk
  rw[Yf,TC,De,Kc (by simpa using this),Gd,hk];rfl
 |n+1,i+1,k,v,hi,hk=>by rw[Yf,Tg (by rw[wb,Nat.add_mul];omega),wb,Nat.add_mul,show i * z.length+1 * z.length+k - z.length=i * z.length+k by omega];exact z7 (by omega) hk
theorem xac(c:List AV):c=cellsOf c.length (fun j=>c.getD j .undef):=by
 apply Nl;intro j
 by_cases hj:j < c.length
 ·rw[CL _ hj,sf,Rb hj];rfl
 ·rw[dh (by omega),dh (by rw[Rq];omega)]
theorem Gal{H:List fa}{d:Nat}{f:Nat->PV}:∀ {n:Nat}{g:Nat->AV},(∀ c,c < n->qb H d (g c)=some (f c))->Ha (qb H d) (cellsOf n g)=some ((List.range n).map f):=by
 have key:∀ (l:List Nat)(g:Nat->AV),(∀ c∈l,qb H d (g c)=some (f c))->Ha (qb H d) (l.map g)=some (l.map f):=by
  intro l g
  induction l with
  |nil=>intro _;rfl
  |cons a l ih=>intro h;rw[Pf,Ha,h a (by simp),Lc,ih fun c hc=>h c (by simp[hc])];rfl
 intro n g h;exact key (List.range n) g fun c hc=>h c (Jq.1 hc)
theorem xao{f:Nat->PV}(a n:Nat):(List.range' a n).map f=(List.range n).map fun k=>f (a+k):=by
 rw[List.range'_eq_map_range,Iq];rfl
theorem MW{f:Nat->PV}(sz:Nat):∀ (n a:Nat),chunk sz true n ((List.range' a (n * sz)).map f)=(List.range n).map fun i=> .agg ((List.range sz).map fun k=>f (a+(i * sz+k)))
 |0,a=>by simp[chunk]
 |n+1,a=>by
  have e:List.range' a ((n+1) * sz)=List.range' a sz++List.range' (a+sz) (n * sz):=by rw[Nat.add_mul,Nat.one_mul,Nat.add_comm,List.range'_append_1]
  have hl:((List.range' a sz).map f).length=sz:=by simp
  rw[e,xm,chunk,if_pos rfl,List.take_left' hl,List.drop_left' hl,MW sz n,List.range_succ_eq_map,Pf,Iq,xao]
  congr 1
  ·congr 1;apply Hq;intro k _;congr 1;omega
  ·apply Hq;intro i _
   simp only[Function.comp]
   congr 1;apply Hq;intro k _;congr 1
   rw[Yz];omega
theorem sw{e:Tr}{t:Nat}:∀ {l:List Nat},t∈l->(Gf e l).get t=e.get t
 |a::l,h=>by
  rw[Gf,Tr.na]
  by_cases ht:t=a
  ·rw[if_pos ht,ht]
  ·rw[qa ht]
   rcases Ae.1 h with h | h
   ·exact absurd h ht
   ·exact sw h
theorem Bam{E0:Tr}{H0:List fa}{s:ya}{P:PV}{ps:List PV}{sb oid:Nat}{g0:Nat->AV}(hp:sk P s.ba ps)(ga:Yd s)
 (h1:E0.get 1= .pv (.rp [P,aa s.pa] 0)) (h3:E0.get 3= .ptr sb 0) (h4:E0.get 4= .pv (aa 1)) (h5:E0.get 5= .pv (aa ((s.ba.length:Int) - 1))) (hs:H0[sb]? =some (.box [.own oid s.ba.length]))
 (ho:H0[oid]? =some (.seq 258 true (cellsOf (s.ba.length * 258) g0) 0 false)) (hz:∀ j,j < s.ba.length->gP g0 j):
 Ia (fun r=>∃ E H,r=(.exit 0,⟨E,H⟩)/\E.get 3= .ptr sb 0/\H[sb]? =some (.box [.own oid s.ba.length])/\∃ fl g,H[oid]? =some (.seq 258 true (cellsOf (s.ba.length * 258) g) fl false)/\∀ j,j < s.ba.length->fP s.ba g j)
  (ua (La Kt 8) (.ml [1,2,3,4,5] tG) ⟨E0,H0⟩):=by
 rw[Wu];have h8:=ga.hi
 have Yl:=ga.prod.2
 refine Bb (We (fun r t=>t.env.get 1= .pv (.rp [P,aa s.pa] 0)/\t.env.get 3= .ptr sb 0/\t.env.get 4= .pv (aa (eb (s.ba.drop (s.ba.length - r))))/\t.env.get 5= .pv (aa ((s.ba.length:Int) - 1 - r))/\t.H[sb]? =some (.box [.own oid s.ba.length])/\
  ∃ fl g,fl<=s.ba.length * 258/\t.H[oid]? =some (.seq 258 true (cellsOf (s.ba.length * 258) g) fl false)/\(∀ j,s.ba.length - r<=j->j < s.ba.length->fP s.ba g j)/\∀ j,j < s.ba.length - r->gP g j)
  s.ba.length (by unfold Ga;omega) _ ?_ ?_ ?_) (fun r h=>h.2)
 ·refine⟨?_,?_,?_,?_,hs,0,g0,by omega,ho,fun j a b=>by omega,fun j hj=>hz j (by omega)⟩
  ·simp only[tidy];rw[sw (by simp),h1]
  ·simp only[tidy];rw[sw (by simp),h3]
  ·simp only[tidy];rw[sw (by simp),h4,Xz,Zh];rfl
  ·simp only[tidy];rw[sw (by simp),h5];simp
 ·rintro r ⟨E,H⟩ hr ⟨g1,g3,g4,g5,gs,fl,g,hfl,go,hd,hz⟩
  obtain⟨i,hi⟩:∃ i,i=s.ba.length - 1 - r:=⟨_,rfl⟩
  have wE:i < s.ba.length:=by omega
  have nf:=ga.ba s.ba[i] (ic wE)
  have qy:s.ba.drop i=s.ba[i]::s.ba.drop (i+1):=Hh wE
  have xI:eb (s.ba.drop i)=eb (s.ba.drop (i+1)) * Tb 0 s.ba[i]:=by rw[qy,eb]
  have hle:=nF ga.ba i
  have th:=Ik (ls:=s.ba.drop i) fun x hx=>ga.ba x (No hx)
  have ib:=FN 0 nf.2
  rw[Int.zero_add] at ib;rw[show s.ba.length - r=i+1 by omega] at g4 hd hz;have eai:=Aam (e:=E) (H:=H) hp wE nf g1 g3 g4 (by rw[g5];congr 2;omega) gs go (hz i (by omega)).1 (by rw[<- ib,<-xI];exact Gb (by omega)) (Qal nf) (Oal nf) (GN nf) (S3 nf) hfl (by omega)
  rw[Aa,JJ];refine Bb eai ?_;rintro⟨ex,E',H'⟩ ⟨rfl,q1,q3,q4,q5,qs,Qd,g',qfl,qo,qB,qg,qw⟩;have Jm:s.ba.getD i []=s.ba[i]:=by rw[sf,Rb wE];rfl
  have uI:∀ j k,j≠i->k < 258->g' (j * 258+k)=g (j * 258+k):=by intro j k hj hk;rw[qg _ (by omega) (fun x hx=>by have:=GN nf x hx;omega),uC _ _ (by omega)]
  refine⟨?_,?_,?_,?_,qs,Qd,g',qfl,qo,?_,?_⟩
  ·simp only[tidy];rw[sw (by simp)];exact q1
  ·simp only[tidy];rw[sw (by simp)];exact q3
  ·simp only[tidy];rw[sw (by simp),q4,show s.ba.length - (r+1)=i by omega,xI,ib]
  ·simp only[tidy];rw[sw (by simp),q5];congr 2;omega
  ·intro j Au al
   by_cases Ei:j=i
   ·subst Ei
    refine⟨?_,fun y hy=> ?_,?_⟩
    ·rcases qB with⟨h,_⟩ | ⟨tk,_,h,_⟩
     ·simp at h;exact absurd h (S3 nf)
     ·exact⟨tk,by rw[Jm];exact h⟩
    ·rw[Jm]
     by_cases hm:(y:Int)∈Xf s.ba[j]
     ·obtain⟨k,hk⟩:=Ax.1 hm
      have:=qw k y hk;rw[Uc] at this;rw[this,<-xas nf hk,Uc]
     ·rw[yas nf hm,qg _ (by omega) (fun x hx=>by
       intro e;have:=GN nf x hx;have:x=(y:Int):=by omega
       exact hm (this ▸ hx)),uC _ _ (by omega)]
      exact (hz j (by omega)).2 y hy
    ·rw[qg _ (by omega) (fun x hx=>by have:=GN nf x hx;omega),CJ]
   ·obtain⟨⟨tk,a1⟩,a2,a3⟩:=hd j (by omega) al
    refine⟨⟨tk,?_⟩,fun y hy=> ?_,?_⟩
    ·have:=uI j 0 Ei (by omega);rw[Vz] at this;rw[this];exact a1
    ·have:=uI j (1+y) Ei (by omega);rw[<- Nat.add_assoc] at this;rw[this];exact a2 y hy
    ·rw[uI j 257 Ei (by omega)];exact a3
  ·intro j hj
   have Ei:j≠i:=by omega
   obtain⟨a1,a2⟩:=hz j (by omega);refine⟨?_,fun y hy=> ?_⟩
   ·have:=uI j 0 Ei (by omega);rw[Vz] at this;rw[this];exact a1
   ·have:=uI j (1+y) Ei (by omega);rw[<- Nat.add_assoc] at this;rw[this];exact a2 y hy
 ·rintro⟨E,H⟩ ⟨g1,g3,g4,g5,gs,fl,g,hfl,go,hd,hz⟩
  have e1:decide ((s.ba.length:Int) - 1 - s.ba.length>=0)=false:=Ra (by omega);generalize hQ:(fun r:Ex×St=>r.1.stop=true/\_)=Q;simp -implicitDefEqProofs only[SX,sevalprocAttr,-List.reduceReplicate,tG,g5,e1];subst hQ;exact⟨rfl,_,_,rfl,by simp[Tr.na,g3],gs,fl,g,go,fun j hj=>hd j (by omega) hj⟩
theorem Cad{e:PV}{s:ya}{P:PV}{ps:List PV}(h:Yh e s P ps)(ga:Yd s):WJ [e]=some (Te s.ba):=by
 obtain⟨Me,Ul⟩:=h.zm
 have heq:=h.eq
 subst heq;have hP:=h.ba
 have lP:=hP.mb
 have h8:=ga.hi
 generalize qt:([PV.oa]++List.replicate 256 (PV.int .u16 0)++[PV.int .i64 0])=zr;have pt:zr.length=258:=by rw[<- qt];simp[-List.reduceReplicate]
 have K0:∀ i k v,i < s.ba.length->zr[k]? =some v->(Yf zr s.ba.length).getD (i * 258+k) .undef= .pv v:=by intro i k v hi hk;rw[sf,<-pt,z7 hi hk];rfl
 have ES:∀ j,j < s.ba.length->gP (fun c=>(Yf zr s.ba.length).getD c .undef) j:=by
  intro j hj;refine⟨by have:=K0 j 0 .oa hj (by rw[<- qt];rfl);rw[Vz] at this;exact this,fun y hy=> ?_⟩;show (Yf zr s.ba.length).getD (j * 258+1+y) .undef=_
  rw[Nat.add_assoc];refine K0 j (1+y) _ hj ?_;rw[<- qt,Kc (by simp[-List.reduceReplicate];omega),Tg (by simp[-List.reduceReplicate]),List.getElem?_replicate];rw[if_pos (by simp[-List.reduceReplicate];omega)]
 have hcell:Yf zr s.ba.length=cellsOf (s.ba.length * 258) (fun c=>(Yf zr s.ba.length).getD c .undef):=by have:=xac (Yf zr s.ba.length);rw[Tao,pt] at this;exact this
 generalize (fun c=>(Yf zr s.ba.length).getD c AV.undef)=g0 at *;have r0:∀ H (x y:PV),wa H false 1 (.pv (.rp [x,y] 0))=some (.pv x):=fun H x y=>rfl;have q0:∀ H (x y:PV),place H 0 (.pv (.rp [x,y] 0))=some (.pv (.rp [x,y] 0)):=fun H x y=>rfl;have e2:(0<=(s.ba.length:Int))=True:=by simp
 have e3:((s.ba.length:Int)<=(s.ba.length:Int))=True:=by simp
 have e4:Ac s.ba.length 544:=by unfold Ac;omega
 have t1:IntKind.i64.wrap ((s.ba.length:Int) - 1)=(s.ba.length:Int) - 1:=Gb (by omega)
 have m1:cn ([PV.oa].map .pv) [(0,1,AV.own 0 s.ba.length)]=some [AV.own 0 s.ba.length]:=rfl;have m2:mq [AV.own 0 s.ba.length]= .agg [AV.own 0 s.ba.length]:=rfl
 have m3:(([AV.own 0 s.ba.length]:List AV).length=1/\([AV.own 0 s.ba.length]:List AV).all AV.one=true)=True:=by simp[AV.one]
 have Sp:=fun (E:Tr)(a1:E.get 1= .pv (.rp [P,aa s.pa] 0))(a3:E.get 3= .ptr 1 0)(a4:E.get 4= .pv (aa 1))(a5:E.get 5= .pv (aa ((s.ba.length:Int) - 1)))=>
  Bam (E0:=E) (H0:=[.seq 258 true (cellsOf (s.ba.length * 258) g0) 0 false,.box [.own 0 s.ba.length]]) hP ga a1 a3 a4 a5 (sb:=1) (oid:=0) rfl rfl ES
 have p1:∀ A B,place [A,.box B] 0 (.ptr 1 0)=some (.ptr 1 0):=fun A B=>rfl;have l1:∀ A b,wa [A,.box [b]] false 1 (.ptr 1 0)=some b:=fun A b=>rfl;have hw:bh 258 s.ba.length 0 (cellsOf (s.ba.length * 258) g0).length:=⟨Ql _,by rw[Rq];exact gb _⟩
 have ln:mb [.seq 258 true (cellsOf (s.ba.length * 258) g0) 0 false,.box [.own 0 s.ba.length]] 0 (.own 0 s.ba.length)=some s.ba.length:=by simp only[mb,Kj,if_pos hw]
 have Oe:∀ (H:List fa)(fl:Nat)(g:Nat->AV),H[1]? =some (.box [.own 0 s.ba.length])->H[0]? =some (.seq 258 true (cellsOf (s.ba.length * 258) g) fl false)->(∀ j,j < s.ba.length->fP s.ba g j)->qb H 6 (.ptr 1 0)=some (Te s.ba):=by
  intro H fl g h1 h0 hd;have hm:Ha (qb H 4) (cellsOf (s.ba.length * 258) g)=some ((List.range (s.ba.length * 258)).map (Hv s.ba)):=by
   refine Gal fun c hc=> ?_;obtain⟨⟨tk,a1⟩,a2,a3⟩:=hd (c / 258) (by omega);unfold Hv
   by_cases k0:c % 258=0
   ·rw[if_pos k0,show c=c / 258 * 258 by omega,a1,show c / 258 * 258 / 258=c / 258 by omega];rfl
   ·rw[qa k0]
    by_cases k1:c % 258=257
    ·rw[if_pos k1]
     have e:g c=g (c / 258 * 258+257):=by congr 1;omega
     rw[e,a3];rfl
    ·rw[qa k1]
     have e:g c=g (c / 258 * 258+1+(c % 258 - 1)):=by congr 1;omega
     rw[e,a2 _ (by omega)];rfl
  have hc2:s.ba.length * 258=(cellsOf (s.ba.length * 258) g).length/\(true||(258:Nat)==1)=true:=⟨(Rq _ _).symm,rfl⟩
  have h5:qb H 5 (.own 0 s.ba.length)=some (.lit 258 ((List.range s.ba.length).map (Iv s.ba))):=by simp only[qb,h0,if_pos hc2,Sc,if_false,hm,Vc,List.range_eq_range' (n:=s.ba.length * 258),MW,De];rfl
  show (match H[1]? with | some (.box cells)=>(Ha (qb H 5) cells).map fun ps=>PV.rp ps 0 | _=>none)=_;rw[h1];simp only[Ha,h5,Lc,Vc];rfl
 have Aak:PV.oa::(List.replicate 256 (PV.int .u16 0)++[PV.int .i64 0])=zr:=qt
 have m4:za [AV.pv PV.oa] 0 [AV.own 0 s.ba.length]=[AV.own 0 s.ba.length]:=rfl;have m5:bd [AV.own 0 s.ba.length]=none:=rfl;have m6:[AV.own 0 s.ba.length].all AV.one=true:=rfl
 simp -implicitDefEqProofs only[WJ,SX,sevalprocAttr,-List.reduceReplicate,XK,Me,r0,q0,lP,e2,e3,Sa e4,Aak,hcell,m4,m5,m6,p1,l1,ln,t1];generalize vc:(Tr.set _ 5 _:Tr)=E;have a1:E.get 1= .pv (.rp [P,aa s.pa] 0):=by rw[<- vc];simp[Tr.na]
 have a3:E.get 3= .ptr 1 0:=by rw[<- vc];simp[Tr.na]
 have a4:E.get 4= .pv (aa 1):=by rw[<- vc];simp[Tr.na]
 have a5:E.get 5= .pv (aa ((s.ba.length:Int) - 1)):=by rw[<- vc];simp[Tr.na]
 obtain⟨r,h1,E',H',rfl,q3,q1,fl,g,q4,q5⟩:=wg (Sp E a1 a3 a4 a5);rw[h1];have h9:=Oe H' fl g q1 q4 q5;simp -implicitDefEqProofs only[SX,sevalprocAttr,-List.reduceReplicate,q3,h9]
section
variable {call:Ab}{o0 o1 o4 o5:fa}{c0 c1 c3 c4 c5:AV}
 (hg:∀ nl es,Pd (Vf o0 o1 o4 o5 c0 c1 c3 c4 c5 nl es))
include hg
theorem yam{E:Tr}{V:PV}{l:List (List Oa)}(hV:Pb 1 V (l.map ae))(hl:l.length<=64)(hle:∀ e∈l,e.length<=256)(ga:∀ e∈l,Kl e)
 (h8:E.get 8= .ptr 2 0) (h101:E.get 101= .pv V) (h102:E.get 102= .pv (aa l.length)) (h103:E.get 103= .pv (aa 0)):
 Ia (fun r=>r.1.stop=true/\∃ E' nl,r=(.exit 2,⟨E',Vf o0 o1 o4 o5 c0 c1 c3 c4 c5 nl (l.map ql)⟩)/\E'.get 8= .ptr 2 0/\(nl=true->l=[]))
  (ua call (.loop [8,101,102,103] bH) ⟨E,Vf o0 o1 o4 o5 c0 c1 c3 c4 c5 true []⟩):=by
 have bw:∀ nl es,(Vf o0 o1 o4 o5 c0 c1 c3 c4 c5 nl es).length=6:=fun _ _=>rfl
 have Jm:∀ nl es,∀ o∈Vf o0 o1 o4 o5 c0 c1 c3 c4 c5 nl es,Fa 6 o=some o:=fun nl es o ho=>hg nl es 6 (by rw[bw];exact gb _) o ho;have Eb:Fit 6 [8,101,102] E:= .cons h8 (GA (by omega)) (.cons h101 bc (.cons h102 bc (.nil _ _)))
 refine Bw (fun i t=>Bc [8,101,102] E t.env/\t.env.get 103= .pv (aa i)/\∃ nl,t.H=Vf o0 o1 o4 o5 c0 c1 c3 c4 c5 nl ((l.take i).map ql)/\(nl=true->i=0)) l.length (by unfold Ga;omega) ?_ ?_ ?_
 ·rw[bw]
  exact yg.all rfl (Jm _ _) (Fit.sub (.cons h103 bc Eb) rfl) fun E' hE=>⟨Bc.sub hE rfl,by rw[hE 103 (by simp),h103];rfl,true,rfl,fun _=>rfl⟩
 ·rintro i ⟨E1,H1⟩ hi ⟨k1,k2,nl,k3,k4⟩
  simp only at k1 k2 k3;subst k3;refine Bb (zam (call:=call) hg hV hl hle ga hi (by simp;omega) ((k1 8 (by simp)).trans h8) ((k1 101 (by simp)).trans h101) ((k1 102 (by simp)).trans h102) k2) ?_;rintro r ⟨E2,rfl,k5,k6⟩;rw[Xr,bw];have Dy:(l.take (i+1)).map ql=(l.take i).map ql++[ql l[i]]:=by rw[List.take_succ_eq_append_getElem hi,xm];rfl
  exact yg.front (bw _ _).symm (Jm _ _) (Fit.sub (.cons k6 bc (Eb.qc (k1.trans k5))) rfl) fun E' hE=>⟨(k1.trans k5).trans (Bc.sub hE rfl),by rw[hE 103 (by simp),k6],false,by rw[Dy],fun h=>by cases h⟩
 ·rintro⟨E1,H1⟩ ⟨k1,k2,nl,k3,k4⟩
  simp only at k1 k2 k3;subst k3;have yM:=(k1 102 (by simp)).trans h102
  have e1:decide ((l.length:Int) < (l.length:Int))=false:=Ra (by omega);rw[ai];generalize hQ:(fun r:Ex×St=>r.1.stop=true/\_)=Q;simp -implicitDefEqProofs only[SX,sevalprocAttr,-List.reduceReplicate,bH,k2,yM,e1];subst hQ;exact⟨rfl,_,nl,rfl,by rw[Tr.na,qa (by decide)];exact (k1 8 (by simp)).trans h8,fun h=>Ze (k4 h)⟩
end
def vl(s:ya)(i:Nat):List Int:=[s.pa,s.pa+eb s.ba - 1,(i:Int)]
def Ah(ss:List ya)(n:Nat):List (List Int):=(List.range n).map fun j=>vl (ss.getD j ⟨[],0⟩) j
theorem xap(ss:List ya){n:Nat}(h:n < ss.length):Ah ss (n+1)=Ah ss n++[vl ss[n] n]:=by
 unfold Ah;rw[jv,xm,Pf,gv,sf,Rb h];rfl
theorem xF(ss:List ya)(n:Nat):(Ah ss n).length=n:=by simp[Ah]
theorem sO{ss:List ya}{n:Nat}{r:List Int}(h:r∈Ah ss n):r.length=3:=by
 unfold Ah at h;obtain⟨j,_,rfl⟩:=Re.1 h
 rfl
theorem uM:∀ {D:List (List Int)},(∀ r∈D,r.length=3)->D.flatten.length=D.length * 3
 | [],_=>rfl
 |r::D,h=>by rw[um,Pc,h r (by simp),uM fun x hx=>h x (by simp[hx]),Td];omega
def wh(ss:List ya):Nat:=ss.foldl (fun m s=>if s.ba.length > m then s.ba.length else m) 0
def Eg(o0 o1 o3:fa)(c0 c1 c2:AV)(nl:Bool)(ds:List PV)(D:List (List Int))(fl:Nat)(nr:Bool)(m:Int):List fa:=
 [o0,o1,.box [c0,c1,c2,.uq 4 nl 1 ds,.own 5 D.length,.pv (aa m)],o3,.tok 1 ds.length nl,.seq 3 true (cf D.flatten) fl nr]
section
variable {call:Ab}{o0 o1 o3:fa}{c0 c1 c2:AV}
theorem paq{E:Tr}{S:PV}{ss:List ya}{es:List PV}{i:Nat}{nl nr:Bool}{fl:Nat}{ds:List PV}{D:List (List Int)}{m:Nat}(hS:zd S ss es)(ga:uc ss)(hi:i < ss.length)(hds:ds.length=i)(hD:D.length=i)(dy:∀ r∈D,r.length=3)(hm:m<=8)
 (h4:E.get 4= .ptr 0 0) (h8:E.get 8= .ptr 2 0) (h46:E.get 46= .pv S) (h47:E.get 47= .pv (aa ss.length)) (h48:E.get 48= .pv (aa i)):
 Ia (fun r=>∃ E' T,r=(.norm,⟨E',Eg o0 o1 o3 c0 c1 c2 false (ds++[Te ss[i].ba]) (D++[vl ss[i] i]) fl false (if ss[i].ba.length > m then ss[i].ba.length else m:Nat)++T⟩)/\Bc [4,8,46,47] E E'/\E'.get 48= .pv (aa (i+1:Nat)))
  (ua call aH ⟨E,Eg o0 o1 o3 c0 c1 c2 nl ds D fl nr m⟩):=by
 obtain⟨P,ps,gl,a1⟩:=hS.Nd hi
 have hs:=ga.He _ (ic hi)
 have Wq:=ga.len
 have bI:=vaq gl hs;have dr:=Cad gl hs;have nf:=Ik hs.ba
 have Yl:=hs.prod.2
 have hlt:=hs.Ng
 have Fi:=hs.last
 have Yk:=hs.f0
 have hf1:=hs.f1
 have LY:=hs.hi
 have lP:=gl.ba.mb
 have Me:=gl.zm.1
 have Xq:=uM dy;generalize ss[i]=s at *;have e1:decide ((i:Int) < (ss.length:Int))=true:=Qa (by omega);have t1:IntKind.i64.wrap ((i:Int)+1)=((i+1:Nat):Int):=sm (by omega)
 have t2:IntKind.i64.wrap (s.pa+eb s.ba)=s.pa+eb s.ba:=Gb (by omega)
 have t3:IntKind.i64.wrap (s.pa+eb s.ba - 1)=s.pa+eb s.ba - 1:=Gb (by omega)
 have r2:∀ H (x y:PV),wa H true 2 (.pv (.rp [x,y] 0))=some (.pv (.agg [x,y])):=fun H x y=>rfl;obtain⟨Am,jy⟩:∃ b,b=fa.box [.pv P,.pv (aa s.pa)]:=⟨_,rfl⟩
 have Xk:(Eg o0 o1 o3 c0 c1 c2 nl ds D fl nr m).length=6:=rfl
 have s1:Db (Eg o0 o1 o3 c0 c1 c2 nl ds D fl nr m++[.box [.pv .oa,.pv (aa 0)]]) 2 (.ptr 6 0) (.pv (.agg [P,aa s.pa]))=some (Eg o0 o1 o3 c0 c1 c2 nl ds D fl nr m++[Am]):=by rw[jy];exact HD (.pv .oa) (.pv (aa 0)) (.pv P) (.pv (aa s.pa)) Me rfl (Eg o0 o1 o3 c0 c1 c2 nl ds D fl nr m) _ rfl
 have p1:∀ d,place (Eg o0 o1 o3 c0 c1 c2 nl ds D fl nr m++[Am]) d (.ptr 2 0)=some (.ptr 2 (0+d)):=fun d=>Cm rfl d 0;have q1:∀ d,place (Eg o0 o1 o3 c0 c1 c2 nl ds D fl nr m++[Am]) d (.ptr 6 0)=some (.ptr 6 (0+d)):=fun d=>Cm (by rw[jy];rfl) d 0;have l1:wa (Eg o0 o1 o3 c0 c1 c2 nl ds D fl nr m++[Am]) false 1 (.ptr 2 4)=some (.own 5 D.length):=rfl;have l2:wa (Eg o0 o1 o3 c0 c1 c2 nl ds D fl nr m++[Am]) false 1 (.ptr 6 1)=some (.pv (aa s.pa)):=by rw[jy];rfl
 have l3:wa (Eg o0 o1 o3 c0 c1 c2 nl ds D fl nr m++[Am]) true 2 (.ptr 6 0)=some (.pv (.agg [P,aa s.pa])):=by rw[jy];rfl
 obtain⟨H2,Ri⟩:∃ H,H=[o0,o1,.box [c0,c1,c2,.uq 4 nl 1 ds,.own 5 D.length,.pv (aa m)],o3,.tok 1 ds.length nl,.seq 3 true (cf (D++[vl s i]).flatten) fl false,Am]:=⟨_,rfl⟩;have XC:Ud (Eg o0 o1 o3 c0 c1 c2 nl ds D fl nr m++[Am]) true .own 3 true 24 (.own 5 D.length) (.pv (.lit 3 [.agg [aa s.pa,aa (s.pa+eb s.ba - 1),aa i]]))=some (.own 5 (D.length+1),H2):=by
  rw[Ri];have hc:cf D.flatten++[AV.pv (aa s.pa),.pv (aa (s.pa+eb s.ba - 1)),.pv (aa i)]=cf (D++[vl s i]).flatten:=by rw[List.flatten_append];simp[cf,vl]
  simp only[Ud,Eg,Sg,Kf,Jj,Kj,if_true,yk,Bg,Vc,Lc,flat,PV.cells,yi,Pf,gv,Td,Ch];rw[if_pos ⟨trivial,by rw[wb];omega,by unfold Ac;omega,rfl⟩,hc];simp
 have p2:∀ d,place H2 d (.ptr 2 0)=some (.ptr 2 (0+d)):=fun d=>Cm (by rw[Ri];rfl) d 0;obtain⟨H3,Jp⟩:∃ H,H=[o0,o1,.box [c0,c1,c2,.uq 4 nl 1 ds,.own 5 (D.length+1),.pv (aa m)],o3,.tok 1 ds.length nl,.seq 3 true (cf (D++[vl s i]).flatten) fl false,Am]:=⟨_,rfl⟩;have s2:Db H2 1 (.ptr 2 4) (.own 5 (D.length+1))=some H3:=by rw[Ri,Jp];rfl
 have p3:∀ d,place H3 d (.ptr 2 0)=some (.ptr 2 (0+d)):=fun d=>Cm (by rw[Jp];rfl) d 0;have q3:∀ d,place H3 d (.ptr 6 0)=some (.ptr 6 (0+d)):=fun d=>Cm (by rw[Jp,jy];rfl) d 0;have l4:wa H3 false 1 (.ptr 2 5)=some (.pv (aa m)):=by rw[Jp];rfl
 have l5:wa H3 false 1 (.ptr 6 0)=some (.pv P):=by rw[Jp,jy];rfl
 obtain⟨mm,zZ⟩:∃ x:Nat,x=if s.ba.length > m then s.ba.length else m:=⟨_,rfl⟩
 have jN:(if (s.ba.length:Int) > (m:Int) then (s.ba.length:Int) else (m:Int))=(mm:Int):=by rw[zZ];split <;> split <;> omega
 obtain⟨H4,VA⟩:∃ H,H=[o0,o1,.box [c0,c1,c2,.uq 4 nl 1 ds,.own 5 (D.length+1),.pv (aa mm)],o3,.tok 1 ds.length nl,.seq 3 true (cf (D++[vl s i]).flatten) fl false,Am]:=⟨_,rfl⟩;have s3:Db H3 1 (.ptr 2 5) (.pv (.int .i64 mm))=some H4:=by rw[Jp,VA];rfl
 have p4:∀ d,place H4 d (.ptr 2 0)=some (.ptr 2 (0+d)):=fun d=>Cm (by rw[VA];rfl) d 0;have l6:wa H4 false 1 (.ptr 2 3)=some (.uq 4 nl 1 ds):=by rw[VA];rfl
 have l7:wa H4 true 2 (.ptr 6 0)=some (.pv (.agg [P,aa s.pa])):=by rw[VA,jy];rfl
 obtain⟨H5,GM⟩:∃ H,H=[o0,o1,.box [c0,c1,c2,.uq 4 nl 1 ds,.own 5 (D.length+1),.pv (aa mm)],o3,.tok 1 (ds.length+1) false,.seq 3 true (cf (D++[vl s i]).flatten) fl false,Am]:=⟨_,rfl⟩;have YC:Ud H4 false .uq 1 false 8 (.uq 4 nl 1 ds) (.pv (.lit 1 [Te s.ba]))=some (.uq 4 false 1 (ds++[Te s.ba]),H5):=by rw[GM];rw[Jo (A:=H4) (id:=4) (n:=ds.length) (nl:=nl) (by rw[VA];rfl) rfl (by unfold Ac;omega) (Te s.ba)];rw[VA];rfl
 have p5:∀ d,place H5 d (.ptr 2 0)=some (.ptr 2 (0+d)):=fun d=>Cm (by rw[GM];rfl) d 0;have s5:Db H5 1 (.ptr 2 3) (.uq 4 false 1 (ds++[Te s.ba]))=some (Eg o0 o1 o3 c0 c1 c2 false (ds++[Te s.ba]) (D++[vl s i]) fl false mm++[Am]):=by
  rw[GM];have e1:(ds++[Te s.ba]).length=ds.length+1:=by simp
  have e2:(D++[vl s i]).length=D.length+1:=by simp
  unfold Eg;rw[e1,e2];rfl
 rw[<- zZ];have m1:cn (List.map AV.pv [PV.int .i64 0,.int .i64 0,.int .i64 0]) [(0,1,.pv (aa s.pa)),(1,1,.pv (aa (s.pa+eb s.ba - 1))),(2,1,.pv (aa i))]=some [.pv (aa s.pa),.pv (aa (s.pa+eb s.ba - 1)),.pv (aa i)]:=rfl;have eZ:(AV.pv (Te s.ba)).one=true:=rfl
 have hdp:(Te s.ba).cells=[Te s.ba]:=rfl
 have Oe:Eg o0 o1 o3 c0 c1 c2 false (ds++[Te s.ba]) (D++[vl s i]) fl false mm++[Am]=Eg o0 o1 o3 c0 c1 c2 false (ds++[Te s.ba]) (D++[vl s i]) fl false mm++[Am]:=rfl;clear Ri Jp VA GM jy;generalize hG1:Eg o0 o1 o3 c0 c1 c2 nl ds D fl nr m++[Am]=G1 at *;generalize hG0:Eg o0 o1 o3 c0 c1 c2 nl ds D fl nr m=G0 at *;generalize Te s.ba=dd at *
 generalize hQ:(fun r:Ex×St=>∃ E' T,r=_/\_)=Q;simp -implicitDefEqProofs only[SP,WP,za,sevalprocAttr,-List.reduceReplicate,aH,h8,h46,h47,h48,e1,a1,r2,Xk,s1,p1,q1,l1,l2,l3,bI,t1,t2,t3,XC,p2,s2,p3,q3,l4,l5,lP,jN,Tk,Rf,s3,p4,l6,l7,dr,eZ,hdp,YC,p5,s5];subst hQ;refine⟨_,[Am],rfl,?_,by rw[Tr.na,if_pos rfl]⟩
 repeat refine Bc.set ?_ rfl
 exact Bc.refl _ _
theorem aam{ss:List ya}{i:Nat}(hi:i < ss.length):wh (ss.take (i+1))=if ss[i].ba.length > wh (ss.take i) then ss[i].ba.length else wh (ss.take i):=by
 unfold wh;rw[List.take_succ_eq_append_getElem hi,PC];rfl
theorem Zal{ss:List ya}(h:∀ s∈ss,s.ba.length<=8):wh ss<=8:=by
 have key:∀ (ss:List ya)(m:Nat),m<=8->(∀ s∈ss,s.ba.length<=8)->ss.foldl (fun m s=>if s.ba.length > m then s.ba.length else m) m<=8:=by
  intro ss
  induction ss with
  |nil=>intro m h _;exact h
  |cons s ss ih=>
   intro m hm h;rw[zx];refine ih _ ?_ fun x hx=>h x (by simp[hx]);have:=h s (by simp)
   split <;> omega
 exact key ss 0 (by omega) h
theorem naq(hg:∀ nl ds D fl nr m,Pd (Eg o0 o1 o3 c0 c1 c2 nl ds D fl nr m)){E:Tr}{S:PV}{ss:List ya}{es:List PV}(hS:zd S ss es)(ga:uc ss)
 (h4:E.get 4= .ptr 0 0) (h8:E.get 8= .ptr 2 0) (h46:E.get 46= .pv S) (h47:E.get 47= .pv (aa ss.length)) (h48:E.get 48= .pv (aa 0)):
 Ia (fun r=>r.1.stop=true/\∃ E' nl nr,r=(.exit 0,⟨E',Eg o0 o1 o3 c0 c1 c2 nl (ss.map fun s=>Te s.ba) (Ah ss ss.length) 0 nr (wh ss)⟩)/\E'.get 4= .ptr 0 0/\E'.get 8= .ptr 2 0/\(nl=true->ss=[])/\(nr=true->ss=[]))
  (ua call (.loop [4,8,46,47,48] aH) ⟨E,Eg o0 o1 o3 c0 c1 c2 true [] [] 0 true 0⟩):=by
 have bw:∀ nl ds D fl nr m,(Eg o0 o1 o3 c0 c1 c2 nl ds D fl nr m).length=6:=fun _ _ _ _ _ _=>rfl
 have Jm:∀ nl ds D fl nr m,∀ o∈Eg o0 o1 o3 c0 c1 c2 nl ds D fl nr m,Fa 6 o=some o:=fun nl ds D fl nr m o ho=>hg nl ds D fl nr m 6 (by rw[bw];exact gb _) o ho;have Eb:Fit 6 [4,8,46,47] E:= .cons h4 (GA (by omega)) (.cons h8 (GA (by omega)) (.cons h46 bc (.cons h47 bc (.nil _ _))))
 have Wq:=ga.len
 refine Bw (fun i t=>Bc [4,8,46,47] E t.env/\t.env.get 48= .pv (aa i)/\∃ nl nr,t.H=Eg o0 o1 o3 c0 c1 c2 nl ((ss.take i).map fun s=>Te s.ba) (Ah ss i) 0 nr (wh (ss.take i))/\(nl=true->i=0)/\(nr=true->i=0)) ss.length (by unfold Ga;omega) ?_ ?_ ?_
 ·rw[bw]
  exact yg.all rfl (Jm _ _ _ _ _ _) (Fit.sub (.cons h48 bc Eb) rfl) fun E' hE=>⟨Bc.sub hE rfl,by rw[hE 48 (by simp),h48];rfl,true,true,rfl,fun _=>rfl,fun _=>rfl⟩
 ·rintro i ⟨E1,H1⟩ hi ⟨k1,k2,nl,nr,k3,k4,k5⟩
  simp only at k1 k2 k3;subst k3;refine Bb (paq (call:=call) hS ga hi (by simp;omega) (xF _ _) (fun r hr=>sO hr) (Zal fun s hs=>(ga.He s (Ot hs)).hi) ((k1 4 (by simp)).trans h4) ((k1 8 (by simp)).trans h8) ((k1 46 (by simp)).trans h46) ((k1 47 (by simp)).trans h47) k2) ?_;rintro r ⟨E2,T,rfl,k6,k7⟩;rw[Xr,bw,<-xap ss hi,<-aam hi];have Dy:(ss.take (i+1)).map (fun s=>Te s.ba)=(ss.take i).map (fun s=>Te s.ba)++[Te ss[i].ba]:=by rw[List.take_succ_eq_append_getElem hi,xm];rfl
  exact yg.front (bw _ _ _ _ _ _).symm (Jm _ _ _ _ _ _) (Fit.sub (.cons k7 bc (Eb.qc (k1.trans k6))) rfl) fun E' hE=>⟨(k1.trans k6).trans (Bc.sub hE rfl),by rw[hE 48 (by simp),k7],false,false,by rw[Dy],fun h=>(by cases h),fun h=>(by cases h)⟩
 ·rintro⟨E1,H1⟩ ⟨k1,k2,nl,nr,k3,k4,k5⟩
  simp only at k1 k2 k3;subst k3;have Ip:=(k1 47 (by simp)).trans h47
  have e1:decide ((ss.length:Int) < (ss.length:Int))=false:=Ra (by omega);rw[ai];generalize hQ:(fun r:Ex×St=>r.1.stop=true/\_)=Q;simp -implicitDefEqProofs only[SX,sevalprocAttr,-List.reduceReplicate,aH,k2,Ip,e1];subst hQ;exact⟨rfl,_,nl,nr,rfl,by rw[Tr.na,qa (by decide)];exact (k1 4 (by simp)).trans h4,by rw[Tr.na,qa (by decide)];exact (k1 8 (by simp)).trans h8,fun h=>Ze (k4 h),fun h=>Ze (k5 h)⟩
end
def gj(ss:List ya):Prop:=∀ i j,(hi:i < ss.length)->(hj:j < ss.length)->i < j->ss[i].ba.length=ss[j].ba.length->fg ss[i] ss[j]=false
theorem Kak(call:Ab){S:PV}{ss:List ya}{es:List PV}(hS:zd S ss es)(i j:Nat)(H:List fa)(hi:i < ss.length)(hj:j < ss.length)(hH:H[0]? =some (.box [.pv S])):
 Gc call gA [.pv (aa i),.pv (aa j),.ptr 0 0] H=some (.pv (.bool (decide (i < j/\ss[i].ba.length=ss[j].ba.length))),H):=by
 obtain⟨P,ps,gn,a1⟩:=hS.Nd hi
 obtain⟨Q,qs,gy,a2⟩:=hS.Nd hj
 have lP:=gn.ba.mb
 have lQ:=gy.ba.mb
 have p0:place H 0 (.ptr 0 0)=some (.ptr 0 0):=by simp[place,hH]
 have l0:wa H false 1 (.ptr 0 0)=some (.pv S):=by simp[wa,hH,tg]
 have r0:∀ H (x y:PV),wa H false 1 (.pv (.rp [x,y] 0))=some (.pv x):=fun H x y=>rfl;have q0:∀ H (x y:PV),place H 0 (.pv (.rp [x,y] 0))=some (.pv (.rp [x,y] 0)):=fun H x y=>rfl
 by_cases hlt:i < j
 ·have e0:decide ((i:Int) < (j:Int))=true:=decide_eq_true (by omega)
  have e:((ss[i].ba.length:Int)==(ss[j].ba.length:Int))=decide (i < j/\ss[i].ba.length=ss[j].ba.length):=by rw[yC];simp only[beq_iff_eq,decide_eq_true_eq];omega
  generalize decide (i < j/\ss[i].ba.length=ss[j].ba.length)=z at e ⊢;generalize ss[i]=p at *;generalize ss[j]=q at *
  by_cases hij:P=Q
  ·subst hij
   have:p.ba.length=q.ba.length:=by have h1:=lP [];have h2:=lQ [];rw[h1] at h2;exact Dx h2
   rw[this] at lP e;obtain rfl:z=true:=by rw[<- e];simp
   simp -implicitDefEqProofs only[SP,WP,za,sevalprocAttr,gA,p0,l0,a1,a2,r0,q0,lP,e0,e]
  ·simp -implicitDefEqProofs only[SP,WP,za,sevalprocAttr,gA,p0,l0,a1,a2,r0,q0,lP,lQ,e0,e]
 ·have e0:decide ((i:Int) < (j:Int))=false:=decide_eq_false (by omega)
  have e:decide (i < j/\ss[i].ba.length=ss[j].ba.length)=false:=decide_eq_false (by omega);rw[e];simp -implicitDefEqProofs only[SP,WP,za,sevalprocAttr,gA,e0]
theorem Lak{S:PV}{ss:List ya}{es:List PV}(hS:zd S ss es)(ga:uc ss):
 ∃ y a b,ax [.agg [S]]=some (.Ba [.agg [.bool y,aa a,aa b],aa 0])/\(y=true↔gj ss):=by
 have nu:(AV.pv S).one=true:=by rcases hS.is with⟨h,_⟩ | h <;> rw[h] <;> rfl
 have zL:AF 25=some Bv:=rfl;have s0:wa [.box [.pv S],yb false 0 0] true 1 (.ptr 0 0)=some (.pv (.agg [S])):=rfl;have hA:eP (La AF 7) 37 S ss.length (fun i j=>if h:i < ss.length/\j < ss.length then decide (i < j/\ss[i].ba.length=ss[j].ba.length) else false):=by refine⟨fun i j H hi hj hH=> ?_⟩;rw[Dm AF 6 37 _ H (f:=gA) rfl,Kak _ hS i j H hi hj hH,dif_pos ⟨hi,hj⟩]
 obtain⟨y,a,b,T,h1,h2⟩:=Y7 hS ga hA (fun i j hi hj h=>by rw[dif_pos ⟨hi,hj⟩] at h;have:=of_decide_eq_true h;omega) (yb false 0 0) (fun n=>by simp[Fa,Ha,bc]);refine⟨y,a,b,?_,?_⟩
 ·have s2:Db ([.box [.pv S],yb false 0 0]++T) 3 (.ptr 1 0) (.pv (.agg [.bool y,aa a,aa b]))=some ([.box [.pv S],yb y a b]++T):=rfl
  have l3:wa ([.box [.pv S],yb y a b]++T) true 3 (.ptr 1 0)=some (.pv (.agg [.bool y,aa a,aa b])):=rfl;generalize Uv:[.box [.pv S],yb false 0 0]++T=A1 at *;generalize cS:[.box [.pv S],yb y a b]++T=A2 at *;simp -implicitDefEqProofs only[ax,SP,WP,za,sevalprocAttr,IP,zL,nu,s0,h1,s2,l3]
 ·rw[h2]
  unfold gj;constructor
  ·intro h i j hi hj hlt he
   exact h i j hi hj (by rw[dif_pos ⟨hi,hj⟩];exact decide_eq_true ⟨hlt,he⟩)
  ·intro h i j hi hj hlt
   rw[dif_pos ⟨hi,hj⟩] at hlt;obtain⟨h1,h2⟩:=of_decide_eq_true hlt;exact h i j hi hj h1 h2
end Go.AM.B1
