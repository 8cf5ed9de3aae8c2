/- What functions of the program compute. -/
import Derived.Test.YtijlhblleiaomaaGreatL5
import Derived.Test.YtijlhblleiaomaaGreatL4
import Derived.Test.YtijlhblleiaomaaGreatL1
import Derived.Test.YtijlhblleiaomaaGreatL2
set_option linter.unusedVariables false
set_option linter.unusedSimpArgs false
namespace Go.AM.B1
open Go.AM Go.AM.So
attribute [local irreducible] qd
abbrev ints(O:List Nat):List PV:=O.map fun (o:Nat)=>i64 (Int.ofNat o)
def Wf(f:Nat->Nat->Bool)(O:List Nat)(to:Int):List Nat×Int:=
 if to < 0 then (O,to) else
  (if O.findIdx (fun o=> !f o to.toNat)=O.length then O++[to.toNat] else O,(O.findIdx (fun o=> !f o to.toNat):Int))
theorem OC(H:List ba){id:Nat}{nl:Bool}{O:List Nat}{k:Nat}(hk:k < O.length):ta H 1 (.uq id nl 1 (ints O)) (k:Int)=some (.pv (.rp [i64 (O[k]:Int)] 0)):=by
 simp only[ta];rw[if_pos (by refine⟨trivial,?_⟩;unfold Ia;simp;omega)];simp[hk,PV.cells]
theorem AG(H:List ba){n:Nat}{f:Nat->Nat->Bool}{k:Nat}(hk:k < n):ta H 1 (.pv (Pk n f)) (k:Int)=some (.pv (.rp [.lit 1 (eg n (f k))] 0)):=by
 simp only[ta,Pk];rw[if_pos (by refine⟨trivial,?_⟩;unfold Ia;simp;omega)];simp[hk,PV.cells]
theorem JG(H:List ba){n:Nat}{f:Nat->Bool}{k:Nat}(hk:k < n):ta H 1 (.pv (.lit 1 (eg n f))) (k:Int)=some (.pv (.rp [.bool (f k)] 0)):=by
 simp only[ta];rw[if_pos (by refine⟨trivial,?_⟩;unfold Ia;rw[lh];omega),Eaa,xB _ hk];rfl
theorem Fz(H:List ba)(x:PV):pa H false 1 (.pv (.rp [x] 0))=some (.pv x):=rfl
abbrev X4(L M:PV)(O:List PV)(k len x:Nat)(to:Int)(m:Int):Tr:=
 (((((((((Tr.lf.set 16 (.pv (i64 m))).set 15 (.pv (i64 to))).set 14 (.pv (i64 x))).set 13 (.own 4 len)).set 12 (.pv (i64 k))).set 11 (.ptr 2 0)).set 10 (.uq 1 false 1 O)).set 9 (.pv M)).set 7 (.pv L)).set 2 (.ptr 0 0)
section
variable (call:Sa)(L:PV)(n:Nat)(f:Nat->Nat->Bool)(O:List Nat)(k len x:Nat)(o0 o2 o3 o4:ba)
 (hc:Ra (qa 5) [o0,.tok 1 O.length false,o2,o3,o4]=some [o0,.tok 1 O.length false,o2,o3,o4]) (hO:∀ o∈O,o < n) (hO2:O.length<=64)
include hc hO hO2
theorem bU(to:Nat)(A8:to < n):
 qd (fun r=>∃ E,r=(.exit 4,⟨E,[o0,.tok 1 O.length false,o2,o3,o4]⟩)/\E.get 2= .ptr 0 0/\E.get 7= .pv L/\E.get 9= .pv (Pk n f)/\E.get 10= .uq 1 false 1 (ints O)/\E.get 11= .ptr 2 0/\E.get 12= .pv (i64 k)/\E.get 13= .own 4 len/\E.get 14= .pv (i64 x)/\E.get 15= .pv (i64 to)/\E.get 16= .pv (i64 (O.findIdx (fun o=> !f o to):Nat)))
  (ab (ma (oa call Zc) (na 5 [2,7,9,10,11,12,13,14,15,16])) ua ⟨X4 L (Pk n f) (ints O) k len x to 0,[o0,.tok 1 O.length false,o2,o3,o4]⟩):=by
 have hle:O.findIdx (fun o=> !f o to)<=O.length:=List.findIdx_le_length
 have hlO:(ints O).length=O.length:=by rw[paa]
 refine wa (Gb (g:=ma (oa call Zc) (na 5 [2,7,9,10,11,12,13,14,15,16]))
  (fun m t=>t=⟨X4 L (Pk n f) (ints O) k len x to m,[o0,.tok 1 O.length false,o2,o3,o4]⟩)
  (O.findIdx (fun o=> !f o to)) (by unfold ua;omega) _ rfl ?_ ?_) (fun r h=>h.2)
 ·rintro m t hm rfl
  have hmO:m < O.length:=by omega
  have hf:f O[m] to=true:=by
   have:=List.not_of_lt_findIdx hm
   simpa using this
  have e1:decide ((m:Int) < (O.length:Int))=true:=Ea (by omega);have t2:IntKind.i64.wrap ((m:Int)+1)=((m+1:Nat):Int):=Aa (by omega)
  have i1:=fun H=>OC H (id:=1) (nl:=false) hmO;have i2:=fun H=>AG H (f:=f) (hO _ (saa hmO));have i3:=fun H=>JG H (f:=f O[m]) A8;rw[hf] at i3;generalize O[m]=o at *;generalize eg n (f o)=T at *;generalize Pk n f=M at *;generalize ints O=os at *;have d0:(0 < 5)=True:=by simp
  have d1:(1 < 5)=True:=by simp
  have d2:(2 < 5)=True:=by simp
  have d4:(4 < 5)=True:=by simp
  have Z7:∀ a b c d e:ba,([a,b,c,d,e]:List ba).take 5=[a,b,c,d,e]:=fun a b c d e=>rfl
  generalize hQ:LN _ _ m=Q;simp -implicitDefEqProofs only[SX,sevalprocAttr,Zc,hlO,e1,t2,i1,i2,i3,Fz,hc,Z7,d0,d1,d2,d4,na,Ca,AV.cut,za,X4];subst hQ;show (_:St)=_;rfl
 ·rintro t rfl
  generalize hN:O.findIdx (fun o=> !f o to)=N at *
  have Q7:∀ E:Tr,E.get 2= .ptr 0 0->E.get 7= .pv L->E.get 9= .pv (Pk n f)->E.get 10= .uq 1 false 1 (ints O)->E.get 11= .ptr 2 0->E.get 12= .pv (i64 k)->E.get 13= .own 4 len->E.get 14= .pv (i64 x)->E.get 15= .pv (i64 to)->E.get 16= .pv (i64 N)->
   (Ex.exit 4,(⟨E,[o0,.tok 1 O.length false,o2,o3,o4]⟩:St)).1.stop=true/\∃ E',(Ex.exit 4,(⟨E,[o0,.tok 1 O.length false,o2,o3,o4]⟩:St))=(.exit 4,⟨E',[o0,.tok 1 O.length false,o2,o3,o4]⟩)/\E'.get 2= .ptr 0 0/\E'.get 7= .pv L/\E'.get 9= .pv (Pk n f)/\E'.get 10= .uq 1 false 1 (ints O)/\E'.get 11= .ptr 2 0/\E'.get 12= .pv (i64 k)/\E'.get 13= .own 4 len/\E'.get 14= .pv (i64 x)/\E'.get 15= .pv (i64 to)/\E'.get 16= .pv (i64 N):=
   fun E k2 k7 k9 B9 C9 k12 k13 k14 k15 k16=>⟨rfl,E,rfl,k2,k7,k9,B9,C9,k12,k13,k14,k15,k16⟩
  generalize hQ:(fun r:Ex×St=>r.1.stop=true/\_)=Q
  by_cases hlt:N < O.length
  ·have hf:f O[N] to=false:=by
    have:=List.findIdx_getElem (w:=by rw[hN];exact hlt) (p:=fun o=> !f o to) (xs:=O)
    simp only[hN] at this;simpa using this
   have e1:decide ((N:Int) < (O.length:Int))=true:=Ea (by omega);have i1:=fun H=>OC H (id:=1) (nl:=false) hlt;have i2:=fun H=>AG H (f:=f) (hO _ (saa hlt));have i3:=fun H=>JG H (f:=f O[N]) A8;rw[hf] at i3;generalize O[N]=o at *;generalize eg n (f o)=T at *;generalize Pk n f=M at *;generalize ints O=os at *;simp -implicitDefEqProofs only[SX,sevalprocAttr,Zc,hlO,e1,i1,i2,i3,Fz,X4];subst hQ;exact Q7 _ (by simp[Tr.aa]) (by simp[Tr.aa]) (by simp[Tr.aa]) (by simp[Tr.aa]) (by simp[Tr.aa]) (by simp[Tr.aa]) (by simp[Tr.aa]) (by simp[Tr.aa]) (by simp[Tr.aa]) (by simp[Tr.aa])
  ·have e1:decide ((N:Int) < (O.length:Int))=false:=Ga (by omega)
   generalize Pk n f=M at *;generalize ints O=os at *;simp -implicitDefEqProofs only[SX,sevalprocAttr,Zc,hlO,e1,X4];subst hQ;exact Q7 _ (by simp[Tr.aa]) (by simp[Tr.aa]) (by simp[Tr.aa]) (by simp[Tr.aa]) (by simp[Tr.aa]) (by simp[Tr.aa]) (by simp[Tr.aa]) (by simp[Tr.aa]) (by simp[Tr.aa]) (by simp[Tr.aa])
theorem dV(E:Tr)(to:Int)(A8:to < (n:Int))(g2:E.get 2= .ptr 0 0)(g7:E.get 7= .pv L)(g9:E.get 9= .pv (Pk n f))(g10:E.get 10= .uq 1 false 1 (ints O))(g11:E.get 11= .ptr 2 0)(g12:E.get 12= .pv (i64 k))(g13:E.get 13= .own 4 len)(g14:E.get 14= .pv (i64 x))(g15:E.get 15= .pv (i64 to)):
 qd (fun r=>∃ E',r=(.norm,⟨E',[o0,.tok 1 (Wf f O to).1.length false,o2,o3,o4]⟩)/\E'.get 2= .ptr 0 0/\E'.get 7= .pv L/\E'.get 9= .pv (Pk n f)/\E'.get 10= .uq 1 false 1 (ints (Wf f O to).1)/\E'.get 11= .ptr 2 0/\E'.get 12= .pv (i64 k)/\E'.get 13= .own 4 len/\E'.get 14= .pv (i64 x)/\E'.get 15= .pv (i64 (Wf f O to).2))
  (oa call qR ⟨E,[o0,.tok 1 O.length false,o2,o3,o4]⟩):=by
 have hR:∀ O' v,Wf f O to=(O',v)->∀ E':Tr,E'.get 2= .ptr 0 0->E'.get 7= .pv L->E'.get 9= .pv (Pk n f)->E'.get 10= .uq 1 false 1 (ints O')->E'.get 11= .ptr 2 0->E'.get 12= .pv (i64 k)->E'.get 13= .own 4 len->E'.get 14= .pv (i64 x)->E'.get 15= .pv (i64 v)->
  ∃ V9,(Ex.norm,(⟨E',[o0,.tok 1 O'.length false,o2,o3,o4]⟩:St))=(.norm,⟨V9,[o0,.tok 1 (Wf f O to).1.length false,o2,o3,o4]⟩)/\V9.get 2= .ptr 0 0/\V9.get 7= .pv L/\V9.get 9= .pv (Pk n f)/\V9.get 10= .uq 1 false 1 (ints (Wf f O to).1)/\V9.get 11= .ptr 2 0/\V9.get 12= .pv (i64 k)/\V9.get 13= .own 4 len/\V9.get 14= .pv (i64 x)/\V9.get 15= .pv (i64 (Wf f O to).2):=by
  intro O' v h E' k2 k7 k9 B9 C9 k12 k13 k14 k15;rw[h];exact⟨E',rfl,k2,k7,k9,B9,C9,k12,k13,k14,k15⟩
 by_cases kac:to < 0
 ·have d1:decide (to>=0)=false:=Ga (by omega)
  have O7:Wf f O to=(O,to):=by unfold Wf;rw[if_pos kac]
  generalize P7:(fun r:Ex×St=>_)=QQ;simp -implicitDefEqProofs only[SP,WP,fa,sevalprocAttr,qR,g15,d1];subst P7;exact hR O to O7 _ (by simp[Tr.aa,g2]) (by simp[Tr.aa,g7]) (by simp[Tr.aa,g9]) (by simp[Tr.aa,g10]) (by simp[Tr.aa,g11]) (by simp[Tr.aa,g12]) (by simp[Tr.aa,g13]) (by simp[Tr.aa,g14]) (by simp[Tr.aa,g15])
 ·have d1:decide (to>=0)=true:=Ea (by omega)
  obtain⟨t,rfl⟩:∃ t:Nat,to=t:=⟨to.toNat,by omega⟩;have hlp:=bU call L n f O k len x o0 o2 o3 o4 hc hO hO2 t (by omega);have O7:Wf f O (t:Int)=(if O.findIdx (fun o=> !f o t)=O.length then O++[t] else O,(O.findIdx (fun o=> !f o t):Int)):=by unfold Wf;rw[taa kac,Eaa]
  have hlO:(ints O).length=O.length:=by rw[paa]
  generalize O.findIdx (fun o=> !f o t)=N at *
  have d0:(0 < 5)=True:=by simp
  have d1':(1 < 5)=True:=by simp
  have d2:(2 < 5)=True:=by simp
  have d4:(4 < 5)=True:=by simp
  have Z7:∀ a b c d e:ba,([a,b,c,d,e]:List ba).take 5=[a,b,c,d,e]:=fun a b c d e=>rfl
  have e8:Cb [o0,.tok 1 O.length false,o2,o3,o4] false .uq 1 false 8 (.uq 1 false 1 (ints O)) (.pv (.lit 1 [i64 t]))=some (.uq 1 false 1 (ints (O++[t])),[o0,.tok 1 (O.length+1) false,o2,o3,o4]):=by have:=Ih (A:=[o0,.tok 1 O.length false,o2,o3,o4]) (id:=1) (n:=O.length) (sz:=1) (h:= .uq) (nl:=false) (ag:=false) (bytes:=8) (es:=ints O) rfl (by rw[paa]) (by unfold eb;omega) (i64 t);rw[this];simp[ints]
  have L8:(O++[t]).length=O.length+1:=by simp
  generalize P7:(fun r:Ex×St=>_)=QQ;generalize hM:Pk n f=M at *;generalize hos:ints O=os at *;generalize Gak:ints (O++[t])=os2 at *;simp -implicitDefEqProofs only[SP,WP,fa,sevalprocAttr,qR,g2,g7,g9,g10,g11,g12,g13,g14,g15,d1,Db,hc,Z7,d0,d1',d2,d4,na,Ca,AV.cut,za];simp only[X4,hos] at hlp;refine wa hlp ?_;rintro r ⟨E2,rfl,k2,k7,k9,B9,C9,k12,k13,k14,k15,k16⟩
  by_cases hN:N=O.length
  ·have e2:((N:Int)==(O.length:Int))=true:=by simp[hN]
   rw[if_pos hN] at O7;simp -implicitDefEqProofs only[SP,WP,fa,sevalprocAttr,k2,k7,k9,B9,C9,k12,k13,k14,k15,k16,hlO,e2,e8,jj,AV.WE,AV.Tq];subst P7;rw[<- L8];exact hR (O++[t]) N O7 _ (by simp[Tr.aa,k2]) (by simp[Tr.aa,k7]) (by simp[Tr.aa,k9]) (by simp[Tr.aa,Gak]) (by simp[Tr.aa,C9]) (by simp[Tr.aa,k12]) (by simp[Tr.aa,k13]) (by simp[Tr.aa,k14]) (by simp[Tr.aa])
  ·have e2:((N:Int)==(O.length:Int))=false:=mj (by omega)
   rw[taa hN] at O7;simp -implicitDefEqProofs only[SP,WP,fa,sevalprocAttr,k2,k7,k9,B9,C9,k12,k13,k14,k15,k16,hlO,e2];subst P7;exact hR O N O7 _ (by simp[Tr.aa,k2]) (by simp[Tr.aa,k7]) (by simp[Tr.aa,k9]) (by simp[Tr.aa,B9,hos]) (by simp[Tr.aa,C9]) (by simp[Tr.aa,k12]) (by simp[Tr.aa,k13]) (by simp[Tr.aa,k14]) (by simp[Tr.aa])
end
attribute [local irreducible] qd
theorem zY(l:List de)(e:de)(fl:Nat):xt (l++[e]) fl= .seq 3 true (La (ud l++[e.lo,e.hi,e.to])) fl false:=by
 have he:(l++[e]).isEmpty=false:=by cases l <;> rfl
 rw[xt,he,Sm]
theorem yS(l:List de)(fl n:Nat):qa n (xt l fl)=some (xt l fl):=by
 have:(La (ud l)).all (AV.ie n deep)=true:=by
  rw[aab];intro v hv;obtain⟨p,_,rfl⟩:=oab.1 hv
  rfl
 simp[qa,xt,this]
theorem yU(call:Sa)(E:Tr)(o0 o1 o2 o3:ba)(x:Nat)(to:Int)(g14:E.get 14= .pv (i64 x))(g15:E.get 15= .pv (i64 to))(hx:x < 256)(A8:to≠ -2)(l:List de)(hl:l.length<=256)(fl:Nat)(hfl:fl<=l.length * 3)(g13:E.get 13= .own 4 l.length):
 qd (fun r=>∃ E' o8,o8<=(pg x to l).length * 3/\r=(.norm,⟨E',[o0,o1,o2,o3,xt (pg x to l) o8]⟩)/\E'.get 13= .own 4 (pg x to l).length/\E'.get 2=E.get 2/\E'.get 7=E.get 7/\E'.get 9=E.get 9/\E'.get 10=E.get 10/\E'.get 11=E.get 11/\E'.get 12=E.get 12/\E'.get 14=E.get 14)
  (oa call qE ⟨E,[o0,o1,o2,o3,xt l fl]⟩):=by
 rcases cae l with rfl | ⟨l',e,rfl⟩
 ·have:fl=0:=by simpa using hfl
  subst this;refine wa (EM call E o0 o1 o2 o3 x to g14 g15 true g13) ?_;rintro r ⟨E',rfl,k13,k2,k7,k9,B9,C9,k12,k14⟩;have hj:=ez (x:=(x:Int)) A8;rw[hj];exact⟨E',0,by omega,rfl,k13,k2,k7,k9,B9,C9,k12,k14⟩
 ·rw[dae] at *
  have R9:(l'++[e]).length=l'.length+1:=by simp
  rw[R9] at hl hfl g13;rw[zY];exact oQ call E o0 o1 o2 o3 x to g14 g15 hx A8 l' e (by omega) fl hfl g13
theorem MI(x to:Int)(l:List de):(pg x to l).length<=l.length+1:=by
 by_cases h:to= -2
 ·subst h;rw[LA];omega
 ·rcases cae l with rfl | ⟨l',e,rfl⟩
  ·rw[ez h];simp
  ·rw[dae]
   by_cases h2:e.to=to/\e.hi=x - 1
   ·obtain⟨rfl,h3⟩:=h2
    rw[PA h h3];simp
   ·rw[Lw h h2];simp
def Jn(C:List (List Int))(f:Nat->Nat->Bool)(o:Nat)(r:List Nat×List de)(x:Nat):List Nat×List de:=
 if bh C o x= -2 then r else ((Wf f r.1 (bh C o x)).1,pg x (Wf f r.1 (bh C o x)).2 r.2)
structure my(n:Nat)(O:List Nat):Prop where
 nd:O.Nodup
 lt:∀ o∈O,o < n
theorem my.len{n:Nat}{O:List Nat}(h:my n O):O.length<=n:=by
 have h1:=DD n (O.map fun (o:Nat)=>Int.ofNat o) ?_ ?_
 ·simpa using h1
 ·rw[List.Nodup,List.pairwise_map]
  exact h.nd.imp fun I7 he=>I7 (Int.ofNat.inj he)
 ·intro o ho
  obtain⟨p,hp,rfl⟩:=oab.1 ho
  have:=h.lt p hp
  constructor
  ·exact Int.natCast_nonneg p
  ·exact Int.ofNat_lt.2 this
theorem PG{n:Nat}{f:Nat->Nat->Bool}(hf:∀ a,f a a=false){O:List Nat}(h:my n O){to:Int}(A8:to < n):my n (Wf f O to).1/\∃ t,(Wf f O to).1=O++t:=by
 unfold Wf
 by_cases h1:to < 0
 ·rw[if_pos h1];exact⟨h,[],by simp⟩
 ·rw[taa h1]
  by_cases h2:O.findIdx (fun o=> !f o to.toNat)=O.length
  ·rw[if_pos h2]
   have v8:∀ o∈O,f o to.toNat=true:=by
    intro o ho;obtain⟨k,hk,rfl⟩:=Eab ho;have:=List.not_of_lt_findIdx (p:=fun o=> !f o to.toNat) (xs:=O) (i:=k) (by omega)
    simpa using this
   refine⟨⟨?_,?_⟩,[to.toNat],rfl⟩
   ·rw[List.nodup_append]
    refine⟨h.nd,by simp,?_⟩;intro a ha b hb;rw[Sab] at hb;subst hb;intro he;subst he;have:=v8 _ ha;rw[hf] at this;cases this
   ·intro o ho
    rcases Naa.1 ho with h3 | h3
    ·exact h.lt o h3
    ·rw[Sab] at h3;subst h3;omega
  ·rw[taa h2];exact⟨h,[],by simp⟩
theorem TS{f:Nat->Nat->Bool}{O:List Nat}{to:Int}(h:to≠ -2)(h2: -2<=to):(Wf f O to).2≠ -2:=by
 unfold Wf
 by_cases h1:to < 0
 ·rw[if_pos h1];exact h
 ·rw[taa h1];simp only;omega
abbrev FY(L M:PV)(O:List PV)(k len x:Nat):Tr:=
 (((((((Tr.lf.set 14 (.pv (i64 x))).set 13 (.own 4 len)).set 12 (.pv (i64 k))).set 11 (.ptr 2 0)).set 10 (.uq 1 false 1 O)).set 9 (.pv M)).set 7 (.pv L)).set 2 (.ptr 0 0)
section
variable (call:Sa){C:List (List Int)}(hC:WL C)(hge:∀ r∈C,∀ v∈r,-2<=v){f:Nat->Nat->Bool}(hf:∀ a,f a a=false)(k:Nat)(o0 o2 o3:ba)(h0:∀ n,qa n o0=some o0)(h2:qa 5 o2=some o2)(h3:∀ n,qa n o3=some o3)
include hC hge hf h0 h2 h3
omit hf in
theorem oG{O:List Nat}(hO:my C.length O){o:Nat}(hk:O[k]? =some o){l:List de}{x:Nat}(hx:x < 256)(hl:l.length<=x){fl:Nat}(hfl:fl<=l.length * 3):
 qd (fun r=>∃ o8,o8<=(Jn C f o (O,l) x).2.length * 3/\r=(.norm,⟨FY (.lit 256 (C.map Zi)) (Pk C.length f) (ints (Jn C f o (O,l) x).1) k (Jn C f o (O,l) x).2.length (x+1),[o0,.tok 1 (Jn C f o (O,l) x).1.length false,o2,o3,xt (Jn C f o (O,l) x).2 o8]⟩))
  (ma (oa call Cf) (na 5 [2,7,9,10,11,12,13,14]) ⟨FY (.lit 256 (C.map Zi)) (Pk C.length f) (ints O) k l.length x,[o0,.tok 1 O.length false,o2,o3,xt l fl]⟩):=by
 have hkO:=(qaa.1 hk).1
 have hko:O[k]=o:=(qaa.1 hk).2
 have ho:o < C.length:=by rw[<- hko];exact hO.lt _ (saa hkO)
 have Uah:O.length<=64:=sac hO.len hC.sz
 have i1:=fun H=>OC H (id:=1) (nl:=false) hkO;rw[hko] at i1;have i2:=fun H=>hC.Pd ho H
 have l2:=fun H=>hC.load ho hx H
 have hv:=(hC.get ho hx).2
 have hv2: -2<=bh C o x:=hge _ (saa ho) _ (sab (hC.get ho hx).1);have e1:decide ((x:Int) < 256)=true:=Ea (by omega);have hq:Ia (x:Int) 256:=by unfold Ia;omega
 have t1:((x:Int)).toNat=x:=by simp
 have m1:x * 1=x:=by omega
 have z1:0+x=x:=by omega
 have t2:IntKind.i64.wrap ((x:Int)+1)=((x+1:Nat):Int):=Aa (by omega)
 have O7:∀ (m:Nat)(l:List de)(fl:Nat),Ra (qa 5) [o0,.tok 1 m false,o2,o3,xt l fl]=some [o0,.tok 1 m false,o2,o3,xt l fl]:=by intro m l fl;have c1:qa 5 (.tok 1 m false)=some (.tok 1 m false):=rfl;simp only[Ra,h0,h2,h3,c1,yS,Daa,Kaa]
 have Z7:∀ a b c d e:ba,([a,b,c,d,e]:List ba).take 5=[a,b,c,d,e]:=fun a b c d e=>rfl
 have d0:(0 < 5)=True:=by simp
 have d1:(1 < 5)=True:=by simp
 have d2:(2 < 5)=True:=by simp
 have d4:(4 < 5)=True:=by simp
 have Vah:=fun (E:Tr) g2 g7 g9 g10 g11 g12 g13 g14 g15=>dV call (.lit 256 (C.map Zi)) C.length f O k l.length x o0 o2 o3 (xt l fl) (O7 _ _ _) hO.lt Uah E (bh C o x) hv g2 g7 g9 g10 g11 g12 g13 g14 g15
 have hce:bh C o x≠ -2->(Wf f O (bh C o x)).2≠ -2:=fun h=>TS h hv2
 have hR:∀ r,Jn C f o (O,l) x=r->∀ o8,o8<=r.2.length * 3->∀ s:St,s=⟨FY (.lit 256 (C.map Zi)) (Pk C.length f) (ints r.1) k r.2.length (x+1),[o0,.tok 1 r.1.length false,o2,o3,xt r.2 o8]⟩->
  ∃ o8,o8<=(Jn C f o (O,l) x).2.length * 3/\(Ex.norm,s)=(.norm,⟨FY (.lit 256 (C.map Zi)) (Pk C.length f) (ints (Jn C f o (O,l) x).1) k (Jn C f o (O,l) x).2.length (x+1),[o0,.tok 1 (Jn C f o (O,l) x).1.length false,o2,o3,xt (Jn C f o (O,l) x).2 o8]⟩):=by
  intro r hr o8 lac s hs;subst hr;exact⟨o8,lac,by rw[hs]⟩
 have hrx:bh C o x= -2->Jn C f o (O,l) x=(O,l):=fun h=>by unfold Jn;rw[if_pos h]
 have Hak:bh C o x≠ -2->Jn C f o (O,l) x=((Wf f O (bh C o x)).1,pg x (Wf f O (bh C o x)).2 l):=fun h=>by unfold Jn;rw[taa h]
 generalize P7:(fun r:Ex×St=>_)=QQ;generalize bh C o x=to at *;generalize hL:(PV.lit 256 (C.map Zi))=L at *;generalize hM:Pk C.length f=M at *
 generalize hoR:C[o].map i64=oR at *
 by_cases A8:to= -2
 ·have b1:(to== -2)=true:=by simp[A8]
  have Waf:=O7 O.length l fl
  have Q7:=hR (O,l) (hrx A8) fl hfl;generalize hos:ints O=os at *;generalize hO4:xt l fl=o4 at *;simp -implicitDefEqProofs only[SP,WP,fa,sevalprocAttr,az,e1,i1,i2,l2,Fz,Tj,Laa hq,t1,m1,z1,b1,t2,Waf,Z7,d0,d1,d2,d4,na,Ca,AV.cut,za,FY];subst P7;exact Q7 _ (by simp only[FY,hos,hO4])
 ·have b1:(to== -2)=false:=mj A8
  have Jak:=hce A8;generalize hos:ints O=os at *;generalize hO4:xt l fl=o4 at *;simp -implicitDefEqProofs only[SP,WP,fa,sevalprocAttr,az,e1,i1,i2,l2,Fz,Tj,Laa hq,t1,m1,z1,b1,FY];refine wa (Vah _ ?_ ?_ ?_ ?_ ?_ ?_ ?_ ?_ ?_) ?_
  any_goals (simp[Tr.aa];done)
  rintro r ⟨E2,rfl,k2,k7,k9,B9,C9,k12,k13,k14,k15⟩;simp -implicitDefEqProofs only[SP,WP,fa,sevalprocAttr];subst hO4;refine wa (yU call E2 o0 _ o2 o3 x _ k14 k15 hx Jak l (by omega) fl hfl k13) ?_;rintro r ⟨E3,o8,lac,rfl,j13,j2,j7,j9,j10,j11,j12,j14⟩;rw[k2] at j2;rw[k7] at j7;rw[k9] at j9;rw[B9] at j10;rw[C9] at j11;rw[k12] at j12;rw[k14] at j14;have Waf:=O7 (Wf f O to).1.length (pg x (Wf f O to).2 l) o8
  have Q7:=hR _ (Hak A8) o8 lac;simp only at Q7;generalize (Wf f O to).1.length=n1 at *
  generalize Iao:ints (Wf f O to).1=os1 at *
  generalize (pg x (Wf f O to).2 l).length=n2 at *
  generalize xt (pg x (Wf f O to).2 l) o8=o4 at *;simp -implicitDefEqProofs only[SP,WP,fa,sevalprocAttr,j2,j7,j9,j10,j11,j12,j13,j14,t2,Waf,Z7,d0,d1,d2,d4,na,Ca,AV.cut,za];subst P7;exact Q7 _ rfl
end
attribute [local irreducible] qd
def Pg(C:List (List Int))(f:Nat->Nat->Bool)(o:Nat)(O:List Nat)(x:Nat):List Nat×List de:=(List.range x).foldl (Jn C f o) (O,[])
theorem HA(C:List (List Int))(f:Nat->Nat->Bool)(o:Nat)(O:List Nat)(x:Nat):Pg C f o O (x+1)=Jn C f o (Pg C f o O x) x:=by
 unfold Pg;rw[vad,Kad];rfl
theorem tW{C:List (List Int)}(hC:WL C){f:Nat->Nat->Bool}(hf:∀ a,f a a=false){o:Nat}(ho:o < C.length){r:List Nat×List de}(h:my C.length r.1){x:Nat}(hx:x < 256):
 my C.length (Jn C f o r x).1/\(∃ t,(Jn C f o r x).1=r.1++t)/\(Jn C f o r x).2.length<=r.2.length+1:=by
 unfold Jn
 split
 ·exact⟨h,⟨[],by simp⟩,by omega⟩
 ·obtain⟨h1,h2⟩:=PG hf h (hC.get ho hx).2
  exact⟨h1,h2,MI _ _ _⟩
theorem QC{C:List (List Int)}(hC:WL C){f:Nat->Nat->Bool}(hf:∀ a,f a a=false){o:Nat}(ho:o < C.length){O:List Nat}(h:my C.length O):∀ (x:Nat),x<=256->
 my C.length (Pg C f o O x).1/\(∃ t,(Pg C f o O x).1=O++t)/\(Pg C f o O x).2.length<=x
 |0,_=>⟨h,⟨[],by simp[Pg]⟩,by simp[Pg]⟩
 |x+1,hx=>by obtain⟨h1,⟨t,h2⟩,h3⟩:=QC hC hf ho h x (by omega);obtain⟨k1,⟨t',k2⟩,k3⟩:=tW hC hf ho h1 (x:=x) (by omega);rw[HA];exact⟨k1,⟨t++t',by rw[k2,h2,Oab]⟩,by omega⟩
def er(C:List (List Int))(f:Nat->Nat->Bool):Nat->List Nat×List (List de)->List Nat×List (List de)
 |0,r=>r
 |k+1,r=>match r.1[r.2.length]? with
  |none=>r
  |some o=>er C f k ((Pg C f o r.1 256).1,r.2++[(Pg C f o r.1 256).2])
theorem nJ{C:List (List Int)}{f:Nat->Nat->Bool}{k:Nat}{r:List Nat×List (List de)}(h:r.1[r.2.length]? =none):er C f k r=r:=by
 cases k with
 |zero=>rfl
 |succ k=>rw[er,h]
theorem EG{C:List (List Int)}{f:Nat->Nat->Bool}{k:Nat}{r:List Nat×List (List de)}{o:Nat}(h:r.1[r.2.length]? =some o):er C f (k+1) r=er C f k ((Pg C f o r.1 256).1,r.2++[(Pg C f o r.1 256).2]):=by
 rw[er,h]
section
variable (call:Sa){C:List (List Int)}(hC:WL C)(hge:∀ r∈C,∀ v∈r,-2<=v){f:Nat->Nat->Bool}(hf:∀ a,f a a=false)
include hC hge hf
theorem GW(k:Nat)(o0 o2 o3:ba)(h0:∀ n,qa n o0=some o0)(h2:qa 5 o2=some o2)(h3:∀ n,qa n o3=some o3){O:List Nat}(hO:my C.length O){o:Nat}(hk:O[k]? =some o):
 qd (fun r=>∃ E fl,r=(.exit 2,⟨E,[o0,.tok 1 (Pg C f o O 256).1.length false,o2,o3,xt (Pg C f o O 256).2 fl]⟩)/\E.get 2= .ptr 0 0/\E.get 7= .pv (.lit 256 (C.map Zi))/\E.get 9= .pv (Pk C.length f)/\E.get 10= .uq 1 false 1 (ints (Pg C f o O 256).1)/\E.get 11= .ptr 2 0/\E.get 12= .pv (i64 k)/\E.get 13= .own 4 (Pg C f o O 256).2.length)
  (ab (ma (oa call Cf) (na 5 [2,7,9,10,11,12,13,14])) ua ⟨FY (.lit 256 (C.map Zi)) (Pk C.length f) (ints O) k 0 0,[o0,.tok 1 O.length false,o2,o3,xt [] 0]⟩):=by
 have hkO:=(qaa.1 hk).1
 have hko:O[k]=o:=(qaa.1 hk).2
 have ho:o < C.length:=by rw[<- hko];exact hO.lt _ (saa hkO)
 refine wa (Gb (g:=ma (oa call Cf) (na 5 [2,7,9,10,11,12,13,14]))
  (fun x t=>∃ fl,fl<=(Pg C f o O x).2.length * 3/\t=⟨FY (.lit 256 (C.map Zi)) (Pk C.length f) (ints (Pg C f o O x).1) k (Pg C f o O x).2.length x,[o0,.tok 1 (Pg C f o O x).1.length false,o2,o3,xt (Pg C f o O x).2 fl]⟩)
  256 (by unfold ua;omega) _ ⟨0,by omega,rfl⟩ ?_ ?_) (fun r h=>h.2)
 ·rintro x t hx ⟨fl,hfl,rfl⟩
  obtain⟨q1,⟨t,q2⟩,q3⟩:=QC hC hf ho hO x (by omega);have hk':(Pg C f o O x).1[k]? =some o:=by rw[q2,gaa hkO];exact hk
  refine wa (oG call hC hge k o0 o2 o3 h0 h2 h3 q1 hk' hx q3 hfl) ?_;rintro r ⟨o8,lac,rfl⟩;have:Jn C f o ((Pg C f o O x).1,(Pg C f o O x).2) x=Pg C f o O (x+1):=(HA C f o O x).symm
  rw[this] at lac ⊢;exact⟨o8,lac,rfl⟩
 ·rintro t ⟨fl,hfl,rfl⟩
  have e1:decide (((256:Nat):Int) < 256)=false:=Ga (by omega);generalize Pg C f o O 256=r at *;have Q7:∀ E:Tr,E.get 2= .ptr 0 0->E.get 7= .pv (.lit 256 (C.map Zi))->E.get 9= .pv (Pk C.length f)->E.get 10= .uq 1 false 1 (ints r.1)->E.get 11= .ptr 2 0->E.get 12= .pv (i64 k)->E.get 13= .own 4 r.2.length->
   (Ex.exit 2,(⟨E,[o0,.tok 1 r.1.length false,o2,o3,xt r.2 fl]⟩:St)).1.stop=true/\∃ E' o8,(Ex.exit 2,(⟨E,[o0,.tok 1 r.1.length false,o2,o3,xt r.2 fl]⟩:St))=(.exit 2,⟨E',[o0,.tok 1 r.1.length false,o2,o3,xt r.2 o8]⟩)/\E'.get 2= .ptr 0 0/\E'.get 7= .pv (.lit 256 (C.map Zi))/\E'.get 9= .pv (Pk C.length f)/\E'.get 10= .uq 1 false 1 (ints r.1)/\E'.get 11= .ptr 2 0/\E'.get 12= .pv (i64 k)/\E'.get 13= .own 4 r.2.length:=
   fun E k2 k7 k9 B9 C9 k12 k13=>⟨rfl,E,fl,rfl,k2,k7,k9,B9,C9,k12,k13⟩
  generalize hQ:(fun r:Ex×St=>r.1.stop=true/\_)=Q;generalize (PV.lit 256 (C.map Zi))=L at *;generalize Pk C.length f=M at *
  generalize ints r.1=os at *
  generalize xt r.2 fl=o4 at *
  simp -implicitDefEqProofs only[SX,sevalprocAttr,az,e1,FY];subst hQ;exact Q7 _ (by simp[Tr.aa]) (by simp[Tr.aa]) (by simp[Tr.aa]) (by simp[Tr.aa]) (by simp[Tr.aa]) (by simp[Tr.aa]) (by simp[Tr.aa])
end
abbrev F3(L M:PV)(O:List PV)(k:Nat):Tr:=
 (((((Tr.lf.set 12 (.pv (i64 k))).set 11 (.ptr 2 0)).set 10 (.uq 1 false 1 O)).set 9 (.pv M)).set 7 (.pv L)).set 2 (.ptr 0 0)
abbrev aB(nl:Bool)(es:List PV):ba:= .box [.uq 3 nl 1 es]
abbrev ZE(out:List (List de)):List PV:=out.map Ee
section
variable (call:Sa){C:List (List Int)}(hC:WL C)(hge:∀ r∈C,∀ v∈r,-2<=v){f:Nat->Nat->Bool}(hf:∀ a,f a a=false)
include hC hge hf
theorem rG(o0:ba)(h0:∀ n,qa n o0=some o0){O:List Nat}(hO:my C.length O){out:List (List de)}{o:Nat}(hk:O[out.length]? =some o):
 qd (fun r=>r=(.norm,⟨F3 (.lit 256 (C.map Zi)) (Pk C.length f) (ints (Pg C f o O 256).1) (out.length+1),[o0,.tok 1 (Pg C f o O 256).1.length false,aB false (ZE (out++[(Pg C f o O 256).2])),.tok 1 (out.length+1) false]⟩))
  (ma (oa call Yc) (na 4 [2,7,9,10,11,12]) ⟨F3 (.lit 256 (C.map Zi)) (Pk C.length f) (ints O) out.length,[o0,.tok 1 O.length false,aB out.isEmpty (ZE out),.tok 1 out.length out.isEmpty]⟩):=by
 have hkO:=(qaa.1 hk).1
 have hko:O[out.length]=o:=(qaa.1 hk).2
 have Uah:O.length<=64:=sac hO.len hC.sz
 have ho:o < C.length:=by rw[<- hko];exact hO.lt _ (saa hkO)
 have hlO:(ints O).length=O.length:=by rw[paa]
 have W8:(ZE out).length=out.length:=by rw[paa]
 have e1:decide ((out.length:Int) < (O.length:Int))=true:=Ea (by omega);have t2:IntKind.i64.wrap ((out.length:Int)+1)=((out.length+1:Nat):Int):=Aa (by omega)
 have hc2:∀ nl es,qa 5 (aB nl es)=some (aB nl es):=fun nl es=>rfl;have R9:=GW call hC hge hf out.length o0 (aB out.isEmpty (ZE out)) (.tok 1 out.length out.isEmpty) h0 (hc2 _ _) (fun n=>rfl) hO hk
 have aaa:∀ (m:Nat)(nl:Bool)(es:List PV)(n:Nat)(l:List de)(fl:Nat),Ra (qa 5) [o0,.tok 1 m false,aB nl es,.tok 1 n nl,xt l fl]=some [o0,.tok 1 m false,aB nl es,.tok 1 n nl,xt l fl]:=by intro m nl es n l fl;have c1:∀ m nl,qa 5 (.tok 1 m nl)=some (.tok 1 m nl):=fun m nl=>rfl;simp only[Ra,h0,hc2,c1,yS,Daa,Kaa]
 have Kak:∀ nl es,qa 4 (aB nl es)=some (aB nl es):=fun nl es=>rfl;have vab:∀ (m:Nat)(nl:Bool)(es:List PV)(n:Nat),Ra (qa 4) [o0,.tok 1 m false,aB nl es,.tok 1 n nl]=some [o0,.tok 1 m false,aB nl es,.tok 1 n nl]:=by intro m nl es n;have c1:∀ m nl,qa 4 (.tok 1 m nl)=some (.tok 1 m nl):=fun m nl=>rfl;simp only[Ra,h0,Kak,c1,Daa,Kaa]
 have hez:ba.seq 3 true [] 0 true=xt [] 0:=rfl
 have oaa:∀ a b c d e:ba,([a,b,c,d,e]:List ba).take 5=[a,b,c,d,e]:=fun a b c d e=>rfl
 have wab:∀ a b c d e:ba,([a,b,c,d,e]:List ba).take 4=[a,b,c,d]:=fun a b c d e=>rfl
 have d50:(0 < 5)=True:=by simp
 have d51:(1 < 5)=True:=by simp
 have d52:(2 < 5)=True:=by simp
 have d54:(4 < 5)=True:=by simp
 have d40:(0 < 4)=True:=by simp
 have d41:(1 < 4)=True:=by simp
 have d42:(2 < 4)=True:=by simp
 have g3:(0 < 3)=True:=by simp
 generalize hr:Pg C f o O 256=r at *;obtain⟨O',l⟩:=r;simp only at R9 ⊢;have G9:∀ (E:Tr)(fl:Nat)(a b c d:ba),E.get 13= .own 4 l.length->fe (.freeze 13) ⟨E,[a,b,c,d,xt l fl]⟩=some ⟨E.set 13 (.pv (Ee l)),[a,b,c,d,.dead]⟩:=by
  intro E fl a b c d h;have h1:l.length * 3=(La (ud l)).length:=by rw[pb,Uk]
  simp only[fe,h,mab,jab,xt];rw[if_pos ⟨h1,rfl⟩,Mac,Mac,Mac,Mac,nac];cases hl:l with
  |nil=>rfl
  |cons e l'=>
   rw[<- hl];have:l.isEmpty=false:=by rw[hl];rfl
   rw[this];simp only[Baa,if_false];have h2:Tc (La (ud l))=some ((ud l).map i64):=by rw[Tu,Tf]
   rw[h2,Kaa,vP,Ee,this];rfl
 have V7:∀ (a b c d:ba) nl es,place [a,b,aB nl es,c,d] 0 (.ptr 2 0)=some (.ptr 2 0):=fun a b c d nl es=>rfl;have hld:∀ (a b c d:ba) nl es,pa [a,b,aB nl es,c,d] false 1 (.ptr 2 0)=some (.uq 3 nl 1 es):=fun a b c d nl es=>rfl;have W7:∀ (a b c d:ba) nl nl' es es',Ha [a,b,aB nl es,c,d] 1 (.ptr 2 0) (.uq 3 nl' 1 es')=some [a,b,aB nl' es',c,d]:=fun a b c d nl nl' es es'=>rfl;have e8:Cb [o0,.tok 1 O'.length false,aB out.isEmpty (ZE out),.tok 1 out.length out.isEmpty,.dead] false .uq 1 false 24 (.uq 3 out.isEmpty 1 (ZE out)) (.pv (.lit 1 [Ee l]))=some (.uq 3 false 1 (ZE (out++[l])),[o0,.tok 1 O'.length false,aB out.isEmpty (ZE out),.tok 1 (out.length+1) false,.dead]):=by
  have:=Ih (A:=[o0,.tok 1 O'.length false,aB out.isEmpty (ZE out),.tok 1 out.length out.isEmpty,.dead]) (id:=3) (n:=out.length) (sz:=1) (h:= .uq) (nl:=out.isEmpty) (ag:=false) (bytes:=24) (es:=ZE out) rfl W8.symm (by unfold eb;omega) (Ee l)
  rw[this];simp[ZE]
 have R7:(AV.pv (Ee l)).one=true:=by unfold Ee;split <;> rfl
 have Lak:(AV.pv (Ee l)).cells=[.pv (Ee l)]:=by unfold Ee;split <;> rfl
 have hpu:(AV.pv (Ee l)).WE= .pv (Ee l):=by unfold Ee;split <;> rfl
 have hpc:(Ee l).cells=[Ee l]:=by unfold Ee;split <;> rfl
 have Wah:=aaa O.length out.isEmpty (ZE out) out.length [] 0
 have Xah:=vab O'.length false (ZE (out++[l])) (out.length+1)
 generalize Ee l=el at *;generalize P7:(fun r:Ex×St=>_)=QQ;generalize hL:(PV.lit 256 (C.map Zi))=L at *;generalize hM:Pk C.length f=M at *
 generalize hos:ints O=os at *;generalize Kao:ints O'=os' at *;generalize hou:ZE out=ou at *;generalize Lao:ZE (out++[l])=ou' at *;generalize hzb:xt [] 0=zb at *;generalize hob:aB out.isEmpty ou=ob at *
 simp -implicitDefEqProofs only[SP,WP,fa,sevalprocAttr,Yc,hlO,e1,fe,g3,hez,Db,Wah,oaa,d50,d51,d52,d54,na,Ca,AV.cut,za,F3];refine wa R9 ?_;rintro r ⟨E,fl,rfl,k2,k7,k9,B9,C9,k12,k13⟩;have Mak:=G9 E fl o0 (.tok 1 O'.length false) ob (.tok 1 out.length out.isEmpty) k13;subst hob;simp -implicitDefEqProofs only[SP,WP,fa,sevalprocAttr,Mak,k2,k7,k9,B9,C9,k12,V7,hld,e8,W7,jj,R7,Lak,hpu,hpc,t2,Xah,wab,d40,d41,d42,na,Ca,AV.cut,za];subst P7;rfl
end
theorem TD(fb:List Int):∀ (xs:List Nat)(r:List Int×List Int),Xd fb xs r=xs.foldl (fun r x=>Aj x (fb.getD x 0) r) r
 | [],r=>rfl
 |x::xs,r=>by rw[Xd,TD fb xs,Aad]
theorem iB(row:List Int):∀ (xs:List Nat)(l:List de),Re row xs l=xs.foldl (fun l (x:Nat)=>pg x (row.getD x 0) l) l
 | [],l=>rfl
 |x::xs,l=>by rw[Re,iB row xs,Aad]
theorem foldl_congr{α β:Type}{f g:β->α->β}:∀ (l:List α)(b:β),(∀ b,∀ a∈l,f b a=g b a)->l.foldl f b=l.foldl g b
 | [],b,_=>rfl
 |a::l,b,h=>by rw[Aad,Aad,h b a (by simp)];exact foldl_congr l _ fun b a' ha=>h b a' (by simp[ha])
theorem vO{v:Int}{co:Nat->Int}{p:Nat->Bool}:∀ (O:List Nat)(k:Nat),(∀ o∈O,(v=co o↔p o=true))->
 ov v (O.map co) k=if O.findIdx p < O.length then some (k+O.findIdx p) else none
 | [],k,_=>by simp[ov]
 |o::O,k,h=>by
  rw[pab,ov,List.findIdx_cons];have ho:=h o (by simp)
  by_cases hp:p o=true
  ·rw[if_pos (ho.2 hp),hp];simp
  ·have hp':p o=false:=by simpa using hp
   rw[taa fun e=>hp (ho.1 e),hp',vO O (k+1) fun o' ho'=>h o' (by simp[ho'])];simp only[cond_false,Raa]
   by_cases hlt:O.findIdx p < O.length
   ·rw[if_pos hlt,if_pos (by omega)];congr 1;omega
   ·rw[taa hlt,taa (by omega)]
def co(C:List (List Int))(o:Nat):Int:=if o=0 then 0 else cls C o
section
variable {ss:List Ob}{B7:List Al}{C:List (List Int)}(Ba:Xb ss)(H7:Df ss)(W:um ss B7 C)(hl:C.length=B7.length)
 {f:Nat->Nat->Bool} (hf:∀ a,f a a=false) (hK:∀ i j,i < C.length->j < C.length->(f i j=false↔cls C i=cls C j))
include Ba H7 W hl hf hK
omit hf hK in
theorem ZR{t:Nat}(h0:0 < t)(ht:t < C.length):cls C t≠0:=by
 intro h;have h1:=(W.uA hl).Gq ht
 have h2:(mf C.length C.flatten).Ac.getD t 0=0:=h
 rw[h2] at h1;exact W.jE Ba H7 hl h0 ht (((W.uA hl).lO (by omega) ht).2 h1.2.2)
omit Ba H7 hf hK in
theorem UK{o x:Nat}(ho:o < C.length)(hx:x < 256):(Va (mf C.length C.flatten).C (co C o).toNat).getD x 0=Ur C o x:=by
 rw[<- W.SU hl ho hx];unfold co
 by_cases h:o=0
 ·rw[if_pos h,h];rfl
 ·rw[taa h]
  have:=((W.uA hl).Gq ho).2.2
  unfold cls;rw[this]
omit hf in
theorem gQ{O:List Nat}(hO:my C.length O){t:Nat}(h0:0 < t)(ht:t < C.length):ov (cls C t) (O.map (co C)) 0=if O.findIdx (fun o=> !f o t) < O.length then some (O.findIdx (fun o=> !f o t)) else none:=by
 rw[vO (p:=fun o=> !f o t)]
 ·simp
 ·intro o ho
  have hoC:=hO.lt o ho
  unfold co
  by_cases hz:o=0
  ·subst hz
   rw[if_pos rfl];constructor
   ·intro h;exact absurd h (ZR Ba H7 W hl h0 ht)
   ·intro h
    have:f 0 t=false:=by simpa using h
    exact absurd ((hK 0 t (by omega) ht).1 this) (W.jE Ba H7 hl h0 ht)
  ·rw[taa hz]
   have:=hK o t hoC ht;constructor
   ·intro h;have:=this.2 h.symm;simp[this]
   ·intro h;exact (this.1 (by simpa using h)).symm
structure TZ(C:List (List Int))(o:Nat)(x:Nat)(rt:List Int×List Int)(rr:List Nat×List de):Prop where
 ord:my C.length rr.1
 fst:rt.1=rr.1.map (co C)
 len:rt.2.length=256
 rest:∀ y,x<=y->y < 256->rt.2.getD y 0=Ur C o y
 S2:rr.2=(List.range x).foldl (fun l (y:Nat)=>pg y (rt.2.getD y 0) l) []
theorem tV{o x:Nat}(ho:o < C.length)(hx:x < 256){rt:List Int×List Int}{rr:List Nat×List de}(h:TZ C o x rt rr):TZ C o (x+1) (Aj x (Ur C o x) rt) (Jn C f o rr x):=by
 have hbd:=W.bound hl ho hx
 have iab:=h.rest x (waa _) hx
 have mad:∀ (row:List Int)(l:List de),(∀ y,y≠x->row.getD y 0=rt.2.getD y 0)->l=pg x (row.getD x 0) rr.2->l=(List.range (x+1)).foldl (fun l (y:Nat)=>pg y (row.getD y 0) l) []:=by
  intro row l h1 h2;rw[vad,Kad,h2,h.S2];show pg x _ _=pg x _ _
  congr 1
  refine foldl_congr _ _ fun b a ha=> ?_;have:a < x:=by simpa using ha
  rw[h1 a (by omega)]
 by_cases kac:bh C o x < 0
 ·have hn:Ur C o x=bh C o x:=by unfold Ur;rw[taa (by omega)]
  have ht:Aj x (Ur C o x) rt=rt:=by unfold Aj;rw[if_pos (by omega)]
  rw[ht];have hr1:(Jn C f o rr x).1=rr.1:=by
   unfold Jn Wf
   split
   ·rfl
   ·first | rfl | rw[if_pos kac]
  have hr2:(Jn C f o rr x).2=pg x (rt.2.getD x 0) rr.2:=by
   rw[iab,hn];unfold Jn Wf
   split
   ·next h2=>rw[h2,LA]
   ·first | rfl | rw[if_pos kac]
  exact⟨by rw[hr1];exact h.ord,by rw[hr1];exact h.fst,h.len,fun y h1 h2=>h.rest y (by omega) h2,mad _ _ (fun _ _=>rfl) hr2⟩
 ·obtain⟨t,ht⟩:∃ t:Nat,bh C o x=t:=⟨(bh C o x).toNat,by omega⟩
  have sam:=W.LC hl ho hx (by omega)
  have h0:0 < t:=by omega
  have htC:t < C.length:=by omega
  have hn:Ur C o x=cls C t:=by unfold Ur;rw[if_pos (by omega),ht,Eaa]
  have hnn:=W.VP hl htC
  have hsc:=gQ Ba H7 W hl hK h.ord h0 htC
  have hrf:Jn C f o rr x=(if rr.1.findIdx (fun o=> !f o t)=rr.1.length then rr.1++[t] else rr.1,pg x (rr.1.findIdx (fun o=> !f o t):Int) rr.2):=by unfold Jn Wf;rw[taa (by omega),taa kac,ht,Eaa]
  have hoC:=(PG hf h.ord (to:=(t:Int)) (by omega)).1
  have O7:(Wf f rr.1 (t:Int)).1=if rr.1.findIdx (fun o=> !f o t)=rr.1.length then rr.1++[t] else rr.1:=by unfold Wf;rw[taa (by omega),Eaa]
  rw[O7] at hoC;have hle:rr.1.findIdx (fun o=> !f o t)<=rr.1.length:=List.findIdx_le_length
  rw[hrf];have F8:∀ v:Int,(∀ y,y≠x->(rt.2.set x v).getD y 0=rt.2.getD y 0)/\(rt.2.set x v).getD x 0=v:=by
   intro v;refine⟨fun y hy=> ?_,?_⟩
   ·rw[Caa,Jaa (rac hy),<-Caa]
   ·rw[Caa,Qaa (by rw[h.len];exact hx)];rfl
  by_cases hlt:rr.1.findIdx (fun o=> !f o t) < rr.1.length
  ·rw[if_pos hlt] at hsc
   have htd:Aj x (Ur C o x) rt=(rt.1,rt.2.set x (rr.1.findIdx (fun o=> !f o t):Int)):=by unfold Aj;rw[hn,taa (by omega),h.fst,hsc]
   rw[htd,taa (by omega)];refine⟨h.ord,h.fst,by simp[h.len],fun y h1 h2=> ?_,?_⟩
   ·rw[(F8 _).1 y (by omega)];exact h.rest y (by omega) h2
   ·exact mad _ _ (F8 _).1 (by rw[(F8 _).2])
  ·rw[taa hlt] at hsc
   have hfe:rr.1.findIdx (fun o=> !f o t)=rr.1.length:=by omega
   have htd:Aj x (Ur C o x) rt=(rt.1++[cls C t],rt.2.set x (rt.1.length:Int)):=by unfold Aj;rw[hn,taa (by omega),h.fst,hsc]
   rw[if_pos hfe] at hoC;rw[htd,if_pos hfe];have hll:rt.1.length=rr.1.length:=by rw[h.fst,paa]
   refine⟨hoC,?_,by simp[h.len],fun y h1 h2=> ?_,?_⟩
   ·simp only[qac,pab,Rad,h.fst]
    unfold co;rw[taa (by omega:¬t=0)]
   ·rw[(F8 _).1 y (by omega)];exact h.rest y (by omega) h2
   ·exact mad _ _ (F8 _).1 (by rw[(F8 _).2,hll,hfe])
theorem NW{o:Nat}(ho:o < C.length){O:List Nat}(hO:my C.length O):Dg (mf C.length C.flatten).C (co C o) (O.map (co C))=((Pg C f o O 256).1.map (co C),(Dg (mf C.length C.flatten).C (co C o) (O.map (co C))).2)/\
 xg (Dg (mf C.length C.flatten).C (co C o) (O.map (co C))).2=(Pg C f o O 256).2/\my C.length (Pg C f o O 256).1:=by
 have X9:(Va (mf C.length C.flatten).C (co C o).toNat).length=256:=by
  refine Fi (W.uA hl).hC ?_
  unfold co
  split
  ·simp;omega
  ·have:=(W.uA hl).Gq ho
   unfold cls;omega
 have key:∀ x,x<=256->TZ C o x ((List.range x).foldl (fun r x=>Aj x ((Va (mf C.length C.flatten).C (co C o).toNat).getD x 0) r) (O.map (co C),Va (mf C.length C.flatten).C (co C o).toNat)) (Pg C f o O x):=by
  intro x
  induction x with
  |zero=>intro _;exact⟨hO,rfl,X9,fun y _ hy=>UK W hl ho hy,rfl⟩
  |succ x ih=>
   intro hx;have h1:=tV Ba H7 W hl hf hK ho (show x < 256 by omega) (ih (by omega));rw[HA,vad,Kad];have h2:(Va (mf C.length C.flatten).C (co C o).toNat).getD x 0=Ur C o x:=UK W hl ho (by omega)
   show TZ C o (x+1) (Aj x ((Va (mf C.length C.flatten).C (co C o).toNat).getD x 0) _) _;rw[h2];exact h1
 have h:=key 256 (waa _);unfold Dg;rw[TD];refine⟨?_,?_,h.ord⟩
 ·rw[<- h.fst]
 ·rw[xg,iB];exact h.S2.symm
theorem xR:∀ (k:Nat)(O:List Nat)(out:List (List de)),my C.length O->ak (mf C.length C.flatten).C k (O.map (co C),out)=((er C f k (O,out)).1.map (co C),(er C f k (O,out)).2)
 |0,O,out,_=>rfl
 |k+1,O,out,hO=>by
  cases ho:O[out.length]? with
  |none=>
   have h1:(O.map (co C))[out.length]? =none:=by rw[Faa,ho];rfl
   rw[Sr h1,nJ (r:=(O,out)) ho]
  |some o=>
   have h1:(O.map (co C))[out.length]? =some (co C o):=by rw[Faa,ho];rfl
   have hoC:=hO.lt o (sab ho)
   obtain⟨q1,q2,q3⟩:=NW Ba H7 W hl hf hK hoC hO;rw[Kt (r:=(O.map (co C),out)) h1,EG (r:=(O,out)) ho,q2];have q4:(Dg (mf C.length C.flatten).C (co C o) (O.map (co C))).1=(Pg C f o O 256).1.map (co C):=by rw[q1]
   simp only[q4];exact xR k _ _ q3
theorem DY(hn:0 < C.length):dp (mf C.length C.flatten).C=(er C f 64 ([0],[])).2:=by
 have h:=xR Ba H7 W hl hf hK 64 [0] [] ⟨by simp,by simp;exact hn⟩;have h0:([0]:List Nat).map (co C)=[0]:=rfl
 unfold dp;rw[<- h0,h]
end
attribute [local irreducible] qd
section
variable (call:Sa){C:List (List Int)}(hC:WL C)(hge:∀ r∈C,∀ v∈r,-2<=v){f:Nat->Nat->Bool}(hf:∀ a,f a a=false)
include hC hge hf
theorem kY(hn:0 < C.length)(o0:ba)(h0:∀ n,qa n o0=some o0):
 qd (fun r=>∃ E O,r=(.exit 0,⟨E,[o0,.tok 1 O false,aB (er C f 64 ([0],[])).2.isEmpty (ZE (er C f 64 ([0],[])).2),.tok 1 (er C f 64 ([0],[])).2.length (er C f 64 ([0],[])).2.isEmpty]⟩)/\E.get 2= .ptr 0 0/\E.get 11= .ptr 2 0/\0 < (er C f 64 ([0],[])).2.length)
  (ab (ma (oa call Yc) (na 4 [2,7,9,10,11,12])) ua ⟨F3 (.lit 256 (C.map Zi)) (Pk C.length f) (ints [0]) 0,[o0,.tok 1 1 false,aB true (ZE []),.tok 1 0 true]⟩):=by
 have K7:=hC.sz
 refine wa (Es (g:=ma (oa call Yc) (na 4 [2,7,9,10,11,12]))
  (fun k t=>∃ (O:List Nat)(out:List (List de)),t=⟨F3 (.lit 256 (C.map Zi)) (Pk C.length f) (ints O) out.length,[o0,.tok 1 O.length false,aB out.isEmpty (ZE out),.tok 1 out.length out.isEmpty]⟩/\k+out.length=64/\my C.length O/\0 < O.length/\out.length<=O.length/\er C f 64 ([0],[])=er C f k (O,out))
  ua 64 _ (by unfold ua;omega) ⟨[0],[],rfl,rfl,⟨by simp,by simp;exact hn⟩,by simp,by simp,rfl⟩ ?_) (fun r h=>h.2)
 rintro k t ⟨O,out,rfl,hk,hO,j8,hle,hs⟩;have hOl:=hO.len
 cases ho:O[out.length]? with
 |some o=>
  have hlt:=(qaa.1 ho).1
  obtain⟨k',rfl⟩:∃ k',k=k'+1:=⟨k - 1,by omega⟩;have hoC:=hO.lt o (sab ho)
  obtain⟨q1,⟨t,q2⟩,_⟩:=QC hC hf hoC hO 256 (waa _);refine wa (rG call hC hge hf o0 h0 hO ho) ?_;rintro r rfl;have hie:(out++[(Pg C f o O 256).2]).isEmpty=false:=by cases out <;> rfl
  have W8:(out++[(Pg C f o O 256).2]).length=out.length+1:=by simp
  refine⟨k',by omega,(Pg C f o O 256).1,out++[(Pg C f o O 256).2],by rw[hie,W8],by rw[W8];omega,q1,?_,?_,?_⟩
  ·rw[q2,Aaa];omega
  ·rw[W8,q2,Aaa];omega
  ·rw[hs,EG (r:=(O,out)) ho]
 |none=>
  have Nao:O.length<=out.length:=by
   rcases Xaa out.length O.length with h | h
   ·rw[caa h] at ho;cases ho
   ·exact h
  rw[nJ (r:=(O,out)) ho] at hs;rw[hs];have e1:decide ((out.length:Int) < (O.length:Int))=false:=Ga (by omega);have hlO:(ints O).length=O.length:=by rw[paa]
  have Nak:qd (fun r=>∃ E,r=(.exit 0,⟨E,[o0,.tok 1 O.length false,aB out.isEmpty (ZE out),.tok 1 out.length out.isEmpty]⟩)/\E.get 2= .ptr 0 0/\E.get 11= .ptr 2 0)
   (ma (oa call Yc) (na 4 [2,7,9,10,11,12]) ⟨F3 (.lit 256 (C.map Zi)) (Pk C.length f) (ints O) out.length,[o0,.tok 1 O.length false,aB out.isEmpty (ZE out),.tok 1 out.length out.isEmpty]⟩):=by
   generalize hQ:(fun r:Ex×St=>_)=Q;generalize (PV.lit 256 (C.map Zi))=L at *;generalize Pk C.length f=M at *
   generalize hos:ints O=os at *;generalize aB out.isEmpty (ZE out)=ob at *
   simp -implicitDefEqProofs only[SX,sevalprocAttr,-List.reduceReplicate,Yc,hlO,e1,F3];subst hQ;exact⟨_,rfl,by simp[Tr.aa],by simp[Tr.aa]⟩
  refine wa Nak ?_;rintro r ⟨E,rfl,k2,C9⟩;exact⟨E,O.length,rfl,k2,C9,by show 0 < out.length;omega⟩
end
theorem Np{S:PV}{ss:List Ob}{es:List PV}(hS:qb S ss es):
 (¬ Xb ss->Ya [.agg [S]]=some (.mc [.agg [.ga],i64 84]))/\
 (Xb ss->¬Df ss->Ya [.agg [S]]=some (.mc [.agg [.ga],i64 110]))/\
 (Xb ss->Df ss->ig ss=none->Ya [.agg [S]]=some (.mc [.agg [.ga],i64 130]))/\
 (Xb ss->Df ss->∀ l,ig ss=some l->Ya [.agg [S]]=some (.mc [.agg [Kk l],i64 0])):=by
 have G8:(AV.pv S).one=true:=by rcases hS.is with⟨h,_⟩ | h <;> rw[h] <;> rfl
 have hp:=eG hS;have st0:∀ (a:PV),Ha [.box [.pv .ga]] 1 (.ptr 0 0) (.pv (.agg [.ga]))=some [.box [.pv .ga]]:=fun a=>rfl;have ld0:pa [.box [.pv .ga]] true 1 (.ptr 0 0)=some (.pv (.agg [.ga])):=rfl;refine⟨?_,?_,?_,?_⟩
 ·intro h
  have h1:=hp.1 h
  have b1:((84:Int) != 0)=true:=by decide
  simp -implicitDefEqProofs only[Ya,SX,sevalprocAttr,-List.reduceReplicate,yf,G8,qe,h1,b1,st0 .ga,ld0]
 ·intro Ba H7
  obtain⟨b,h1,hb⟩:=hp.2 Ba
  have:b=false:=by cases b with | false=>rfl | true=>exact absurd (hb.1 rfl) H7
  subst this;have b1:((0:Int) != 0)=false:=by decide
  simp -implicitDefEqProofs only[Ya,SX,sevalprocAttr,-List.reduceReplicate,yf,G8,qe,h1,b1,st0 .ga,ld0]
 ·intro Ba H7 hau
  obtain⟨b,h1,hb⟩:=hp.2 Ba
  have:=hb.2 H7
  subst this;have hn:ph ss 64 (qh ss,[])=none:=by unfold ig at hau;simpa using hau
  have h2:=(rM hS Ba).2 hn
  have b1:((0:Int) != 0)=false:=by decide
  simp -implicitDefEqProofs only[Ya,SX,sevalprocAttr,-List.reduceReplicate,yf,G8,qe,h1,h2,b1,st0 .ga,ld0]
 ·intro Ba H7 l hau
  obtain⟨b,h1,hb⟩:=hp.2 Ba
  have:=hb.2 H7
  subst this;obtain⟨p,hn,hl⟩:∃ r,ph ss 64 (qh ss,[])=some r/\dp (mf r.2.length r.2.flatten).C=l:=by unfold ig at hau;simpa using hau
  obtain⟨h2,_⟩:=(rM hS Ba).1 p hn
  obtain⟨W,hlen⟩:=ZJ Ba.len Ba.ne hn
  have j8:0 < p.2.length:=by
   have:=(qaa.1 W.first).1
   omega
  obtain⟨f,hK,h3⟩:=kV (W.vg hlen) j8 (W.I5 hlen);have hff:∀ a,f a a=false:=fun a=>by
   cases h:f a a with
   |false=>rfl
   |true=>exact absurd rfl (hK.snd a a h)
  have hfk:=W.known hlen hK
  have htr:=DY Ba H7 W hlen hff hfk j8;have e9:=kY (Da (fun _=>none) 8) (W.vg hlen) (W.ge hlen) hff j8 (.box [.pv .ga]) (fun n=>rfl);rw[htr] at hl;rw[hl] at e9;have b1:((0:Int) != 0)=false:=by decide
  have hi0:ints [0]=[i64 0]:=rfl;have ho0:ZE []=[]:=rfl;rw[hi0,ho0] at e9;have key:qd (fun r=>r=PV.mc [.agg [Kk l],i64 0]) (Ya [.agg [S]]):=by
   have hes:Kk l= .lit 1 (ZE l):=rfl
   have I7:0 < l.length->l.isEmpty=false:=fun h=>by cases l with | nil=>simp at h | cons=>rfl
   have g1:(0 < 1)=True:=by simp
   have st1:Ha [.box [.pv .ga],.tok 1 1 false,.box [.pv .ga]] 1 (.ptr 2 0) (.pv (.agg [.ga]))=some [.box [.pv .ga],.tok 1 1 false,.box [.pv .ga]]:=rfl;have hc4:Ra (qa 4) [.box [.pv .ga],.tok 1 1 false,aB true [],.tok 1 0 true]=some [.box [.pv .ga],.tok 1 1 false,aB true [],.tok 1 0 true]:=rfl;have Z7:∀ a b c d:ba,([a,b,c,d]:List ba).take 4=[a,b,c,d]:=fun a b c d=>rfl
   have d40:(0 < 4)=True:=by simp
   have d41:(1 < 4)=True:=by simp
   have d42:(2 < 4)=True:=by simp
   generalize P7:(fun r:PV=>_)=QQ;generalize (PV.lit 256 (p.2.map Zi))=L at *;generalize hM:Pk p.2.length f=M at *
   have hMo:(AV.pv M).one=true:=by rw[<- hM];rfl
   generalize p.1.map Af=se at *
   simp -implicitDefEqProofs only[Ya,SP,WP,fa,sevalprocAttr,-List.reduceReplicate,yf,G8,qe,h1,h2,h3,b1,st1,fe,g1,jj,AV.WE,AV.Tq,Db,hc4,Z7,d40,d41,d42,na,Ca,AV.cut,za];refine wa e9 ?_;rintro r ⟨E,O,rfl,k2,C9,Zah⟩;rw[I7 Zah];have ld1:∀ (out:List PV)(a b:ba),pa [.box [.pv .ga],a,aB false out,b] true 1 (.ptr 2 0)=some (.agg [.uq 3 false 1 out]):=fun out a b=>rfl;have st2:∀ (out:List PV)(a b c:ba),Ha [.box [.pv .ga],a,b,c] 1 (.ptr 0 0) (.agg [.uq 3 false 1 out])=some [aB false out,a,b,c]:=fun out a b c=>rfl;have ld2:∀ (out:List PV)(a b c:ba),pa [aB false out,a,b,c] true 1 (.ptr 0 0)=some (.agg [.uq 3 false 1 out]):=fun out a b c=>rfl;generalize ZE l=out at *;simp -implicitDefEqProofs only[SP,WP,fa,sevalprocAttr,-List.reduceReplicate,k2,C9,ld1,st2,ld2];subst P7;rw[hes]
  exact bl key
attribute [local irreducible] qd
structure GF(ss:List Ob):Prop where
 len:ss.length * 32<=140737488355328
 parts:∀ s∈ss,s.parts.length * 24<=140737488355328
def RC(ls:List (List (Int×Int))):List PV:=ls.map Qe
def L2(ls:List (List (Int×Int))):PV:=if ls.isEmpty then .ga else .lit 1 (RC ls)
def JM(s:Ob):PV:= .agg [L2 s.parts,i64 s.first]
def Pq(ss:List Ob):List PV:=ss.map JM
def x6(ss:List Ob):PV:=if ss.isEmpty then .ga else .lit 2 (Pq ss)
abbrev Z4(row:List PV)(i:Int):Tr:=(((Tr.lf.set 4 (.pv (i64 i))).set 3 (.ptr 1 0)).set 2 (.ptr 0 0)).set 1 (.pv (.rp row 0))
abbrev eI(nl:Bool)(out:List PV)(first:Int):ba:= .box [.uq 2 nl 1 out,.pv (i64 first)]
theorem ZH{e:PV}{s:Ob}{P:PV}{ps:List PV}(h:fg e s P ps)(K7:s.parts.length * 24<=140737488355328):Kg [e]=some (JM s):=by
 obtain⟨rfl,hP⟩:=h;have E8:(AV.pv P).one=true:=by rcases hP.is with⟨h,_⟩ | h <;> rw[h] <;> rfl
 have ln:=hP.Tb
 have hc3:∀ nl out n,Ra (qa 3) [.box [.pv .ga,.pv (i64 0)],eI nl out s.first,.tok 1 n nl]=some [.box [.pv .ga,.pv (i64 0)],eI nl out s.first,.tok 1 n nl]:=fun nl out n=>rfl;have hae:∀ a b c d:ba,([a,b,c,d]:List ba).take 3=[a,b,c]:=fun a b c d=>rfl
 have bai:∀ a b c:ba,([a,b,c]:List ba).take 3=[a,b,c]:=fun a b c=>rfl
 have d0:(0 < 3)=True:=by simp
 have d1:(1 < 3)=True:=by simp
 have D7:qd (fun r=>∃ E nl,r=(.exit 0,⟨E,[.box [.pv .ga,.pv (i64 0)],eI s.parts.isEmpty (RC s.parts) s.first,.tok 1 s.parts.length nl]⟩)/\E.get 2= .ptr 0 0/\E.get 3= .ptr 1 0)
  (ab (ma (oa (Da (fun _=>none) 8) oe) (na 3 [1,2,3,4])) ua ⟨Z4 [P,i64 s.first] 0,[.box [.pv .ga,.pv (i64 0)],eI true [] s.first,.tok 1 0 true]⟩):=by
  refine wa (Gb (g:=ma (oa (Da (fun _=>none) 8) oe) (na 3 [1,2,3,4]))
   (fun i t=>t=⟨Z4 [P,i64 s.first] i,[.box [.pv .ga,.pv (i64 0)],eI (s.parts.take i).isEmpty (RC (s.parts.take i)) s.first,.tok 1 i (s.parts.take i).isEmpty]⟩)
   s.parts.length (by unfold ua;omega) _ rfl ?_ ?_) (fun r h=>h.2)
  ·rintro i t hi rfl
   obtain⟨v,hv,S8,_⟩:=hP.Pd hi []
   have a1:=hP.dy hv
   have T7:s.parts.take (i+1)=s.parts.take i++[s.parts[i]]:=by simp
   have hie:(s.parts.take (i+1)).isEmpty=false:=by rw[T7];cases s.parts.take i <;> rfl
   have O7:RC (s.parts.take (i+1))=RC (s.parts.take i)++[Qe s.parts[i]]:=by rw[T7,RC,qac];rfl
   have hcn:(RC (s.parts.take i)).length=i:=by rw[RC,paa,Lab];omega
   have hep:Qe s.parts[i]= .lit 2 (ae s.parts[i]):=rfl
   rw[hep] at O7;have M8:∀ st:St,st=⟨Z4 [P,i64 s.first] (i+1:Nat),[.box [.pv .ga,.pv (i64 0)],eI false (RC (s.parts.take (i+1))) s.first,.tok 1 (i+1) false]⟩->
    LN (fun i t=>t=⟨Z4 [P,i64 s.first] i,[.box [.pv .ga,.pv (i64 0)],eI (s.parts.take i).isEmpty (RC (s.parts.take i)) s.first,.tok 1 i (s.parts.take i).isEmpty]⟩)
     (fun r=>∃ E nl,r=(.exit 0,⟨E,[.box [.pv .ga,.pv (i64 0)],eI s.parts.isEmpty (RC s.parts) s.first,.tok 1 s.parts.length nl]⟩)/\E.get 2= .ptr 0 0/\E.get 3= .ptr 1 0) i (.norm,st):=by
    intro st h;show st=_;rw[h,hie]
   generalize LN _ _ i=QQ at M8 ⊢;have hpz:=S8.sz
   have hpi:=S8.is
   have V7:(ae s.parts[i]).length=s.parts[i].length:=by simp[ae]
   generalize s.parts[i]=l at *
   generalize (s.parts.take i).isEmpty=nl at *
   have aae:Cb [.box [.pv .ga,.pv (i64 0)],eI nl (RC (s.parts.take i)) s.first,.tok 1 i nl,.tok 2 0 false] false .uq 2 true 16 (.uq 3 false 2 []) (.pv v)=some (.uq 3 false 2 (ae l),[.box [.pv .ga,.pv (i64 0)],eI nl (RC (s.parts.take i)) s.first,.tok 1 i nl,.tok 2 l.length false]):=by
    rcases hpi with⟨h1,h2⟩ | h1
    ·have:l.length=0:=by rw[<- V7,h2];rfl
     rw[h1,h2,this];rfl
    ·rw[h1]
     simp only[Cb,Baa,if_false,mab,jab,Kf,if_true,Daa];rw[if_pos ⟨trivial,trivial,rfl,by rw[V7];unfold eb;simp;exact hpz⟩];simp[V7]
   have Taa:Cb [.box [.pv .ga,.pv (i64 0)],eI nl (RC (s.parts.take i)) s.first,.tok 1 i nl,.tok 2 l.length false] false .uq 1 false 24 (.uq 2 nl 1 (RC (s.parts.take i))) (.pv (.lit 1 [.lit 2 (ae l)]))=some (.uq 2 false 1 (RC (s.parts.take (i+1))),[.box [.pv .ga,.pv (i64 0)],eI nl (RC (s.parts.take i)) s.first,.tok 1 (i+1) false,.tok 2 l.length false]):=by
    have:=Ih (A:=[.box [.pv .ga,.pv (i64 0)],eI nl (RC (s.parts.take i)) s.first,.tok 1 i nl,.tok 2 l.length false]) (id:=2) (n:=i) (sz:=1) (h:= .uq) (nl:=nl) (ag:=false) (bytes:=24) (es:=RC (s.parts.take i)) rfl hcn.symm (by unfold eb;omega) (.lit 2 (ae l))
    rw[this,O7];rfl
   have e1:decide ((i:Int) < (s.parts.length:Int))=true:=Ea (by omega);have t2:IntKind.i64.wrap ((i:Int)+1)=((i+1:Nat):Int):=Aa (by omega)
   generalize RC (s.parts.take i)=o at *;generalize RC (s.parts.take (i+1))=o' at *;generalize ae l=es at *;have pl:∀ c d,place [.box [.pv .ga,.pv (i64 0)],eI nl o s.first,c,d] 0 (.ptr 1 0)=some (.ptr 1 0):=fun c d=>rfl;have pl':∀ c,place [.box [.pv .ga,.pv (i64 0)],eI nl o s.first,c] 0 (.ptr 1 0)=some (.ptr 1 0):=fun c=>rfl;have ld:∀ c,pa [.box [.pv .ga,.pv (i64 0)],eI nl o s.first,c] false 1 (.ptr 1 0)=some (.uq 2 nl 1 o):=fun c=>rfl;have st:∀ c d,Ha [.box [.pv .ga,.pv (i64 0)],eI nl o s.first,c,d] 1 (.ptr 1 0) (.uq 2 false 1 o')=some [.box [.pv .ga,.pv (i64 0)],eI false o' s.first,c,d]:=fun c d=>rfl;have Xaf:=hc3 false o' (i+1);simp -implicitDefEqProofs only[SP,WP,fa,sevalprocAttr,oe,Vc,je,ln,e1,t2,a1,Wa,pl,pl',ld,st,aae,Taa,Xaf,hae,d0,d1,jj,AV.WE,AV.Tq,na,Ca,AV.cut,za,Z4];exact M8 _ rfl
  ·rintro t rfl
   rw[Fab];have e1:decide ((s.parts.length:Int) < (s.parts.length:Int))=false:=Ga (by omega);generalize RC s.parts=o
   generalize s.parts.isEmpty=nl
   generalize hQ:(fun r:Ex×St=>r.1.stop=true/\_)=Q;simp -implicitDefEqProofs only[SP,WP,fa,sevalprocAttr,oe,Vc,je,ln,e1,Z4];subst hQ;exact⟨rfl,_,nl,rfl,by simp[Tr.aa],by simp[Tr.aa]⟩
 have st0:Ha [.box [.pv .ga,.pv (i64 0)],.box [.pv .ga,.pv (i64 0)]] 2 (.ptr 1 0) (.pv (.agg [.ga,i64 s.first]))=some [.box [.pv .ga,.pv (i64 0)],.box [.pv .ga,.pv (i64 s.first)]]:=rfl;have g1:(0 < 1)=True:=by simp
 have Yaf:=hc3 true [] 0;have ld1:∀ nl out c,pa [.box [.pv .ga,.pv (i64 0)],eI nl out s.first,c] true 2 (.ptr 1 0)=some (.agg [.uq 2 nl 1 out,.pv (i64 s.first)]):=fun nl out c=>rfl;have st1:∀ nl out b c,Ha [.box [.pv .ga,.pv (i64 0)],b,c] 2 (.ptr 0 0) (.agg [.uq 2 nl 1 out,.pv (i64 s.first)])=some [eI nl out s.first,b,c]:=fun nl out b c=>rfl;have ld2:∀ nl out b c,pa [eI nl out s.first,b,c] true 2 (.ptr 0 0)=some (.agg [.uq 2 nl 1 out,.pv (i64 s.first)]):=fun nl out b c=>rfl;apply bl;unfold JM L2;generalize RC s.parts=o at *
 generalize s.parts.isEmpty=em at *
 simp -implicitDefEqProofs only[Kg,SP,WP,fa,sevalprocAttr,Ti,E8,Vc,Hj,je,gk,st0,fe,g1,Db,Yaf,bai,d0,d1,na,Ca,AV.cut,za];refine wa D7 ?_;rintro r ⟨E,nl,rfl,k2,k3⟩;cases em <;> simp -implicitDefEqProofs only[SP,WP,fa,sevalprocAttr,k2,k3,ld1,st1,ld2]
abbrev Y4(row:List PV)(i:Int):Tr:=(((Tr.lf.set 4 (.pv (i64 i))).set 3 (.ptr 1 0)).set 2 (.ptr 0 0)).set 1 (.pv (.rp row 0))
abbrev TL(nl:Bool)(out:List PV):ba:= .box [.uq 2 nl 2 out]
theorem BU{S:PV}{ss:List Ob}{es:List PV}(hS:qb S ss es)(hz:GF ss):Wi [.agg [S]]=some (.agg [x6 ss]):=by
 have G8:(AV.pv S).one=true:=by rcases hS.is with⟨h,_⟩ | h <;> rw[h] <;> rfl
 have ln:=hS.Tb
 have GX:=hz.len
 have hc3:∀ nl out n,Ra (qa 3) [.box [.pv .ga],TL nl out,.tok 2 n nl]=some [.box [.pv .ga],TL nl out,.tok 2 n nl]:=fun nl out n=>rfl;have hae:∀ a b c:ba,([a,b,c]:List ba).take 3=[a,b,c]:=fun a b c=>rfl
 have d0:(0 < 3)=True:=by simp
 have d1:(1 < 3)=True:=by simp
 have D7:qd (fun r=>∃ E nl,r=(.exit 0,⟨E,[.box [.pv .ga],TL ss.isEmpty (Pq ss),.tok 2 ss.length nl]⟩)/\E.get 2= .ptr 0 0/\E.get 3= .ptr 1 0)
  (ab (ma (oa (Da (fun _=>none) 8) Vf) (na 3 [1,2,3,4])) ua ⟨Y4 [S] 0,[.box [.pv .ga],TL true [],.tok 2 0 true]⟩):=by
  refine wa (Gb (g:=ma (oa (Da (fun _=>none) 8) Vf) (na 3 [1,2,3,4]))
   (fun i t=>t=⟨Y4 [S] i,[.box [.pv .ga],TL (ss.take i).isEmpty (Pq (ss.take i)),.tok 2 i (ss.take i).isEmpty]⟩)
   ss.length (by unfold ua;omega) _ rfl ?_ ?_) (fun r h=>h.2)
  ·rintro i t hi rfl
   obtain⟨P,ps,hP,a1⟩:=hS.Pd hi
   have n9:=ZH hP (hz.parts _ (saa hi));have T7:ss.take (i+1)=ss.take i++[ss[i]]:=by simp
   have hie:(ss.take (i+1)).isEmpty=false:=by rw[T7];cases ss.take i <;> rfl
   have O7:Pq (ss.take (i+1))=Pq (ss.take i)++[JM ss[i]]:=by rw[T7,Pq,qac];rfl
   have hcn:(Pq (ss.take i)).length=i:=by rw[Pq,paa,Lab];omega
   have hep:JM ss[i]= .agg [L2 ss[i].parts,i64 ss[i].first]:=rfl
   rw[hep] at O7 n9;have M8:∀ st:St,st=⟨Y4 [S] (i+1:Nat),[.box [.pv .ga],TL false (Pq (ss.take (i+1))),.tok 2 (i+1) false]⟩->
    LN (fun i t=>t=⟨Y4 [S] i,[.box [.pv .ga],TL (ss.take i).isEmpty (Pq (ss.take i)),.tok 2 i (ss.take i).isEmpty]⟩)
     (fun r=>∃ E nl,r=(.exit 0,⟨E,[.box [.pv .ga],TL ss.isEmpty (Pq ss),.tok 2 ss.length nl]⟩)/\E.get 2= .ptr 0 0/\E.get 3= .ptr 1 0) i (.norm,st):=by
    intro st h;show st=_;rw[h,hie]
   generalize LN _ _ i=QQ at M8 ⊢;have J8:(AV.pv (L2 ss[i].parts)).one=true:=by unfold L2;split <;> rfl
   generalize L2 ss[i].parts=pv at *
   generalize ss[i].first=fi at *
   generalize (ss.take i).isEmpty=nl at *
   have Taa:Cb [.box [.pv .ga],TL nl (Pq (ss.take i)),.tok 2 i nl] false .uq 2 true 32 (.uq 2 nl 2 (Pq (ss.take i))) (.pv (.lit 2 [.agg [pv,i64 fi]]))=some (.uq 2 false 2 (Pq (ss.take (i+1))),[.box [.pv .ga],TL nl (Pq (ss.take i)),.tok 2 (i+1) false]):=by
    have:=Ih (A:=[.box [.pv .ga],TL nl (Pq (ss.take i)),.tok 2 i nl]) (id:=2) (n:=i) (sz:=2) (h:= .uq) (nl:=nl) (ag:=true) (bytes:=32) (es:=Pq (ss.take i)) rfl hcn.symm (by unfold eb;omega) (.agg [pv,i64 fi])
    rw[this,O7];rfl
   have e1:decide ((i:Int) < (ss.length:Int))=true:=Ea (by omega);have t2:IntKind.i64.wrap ((i:Int)+1)=((i+1:Nat):Int):=Aa (by omega)
   generalize Pq (ss.take i)=o at *;generalize Pq (ss.take (i+1))=o' at *;have pl:∀ c,place [.box [.pv .ga],TL nl o,c] 0 (.ptr 1 0)=some (.ptr 1 0):=fun c=>rfl;have ld:∀ c,pa [.box [.pv .ga],TL nl o,c] false 1 (.ptr 1 0)=some (.uq 2 nl 2 o):=fun c=>rfl;have st:∀ c,Ha [.box [.pv .ga],TL nl o,c] 1 (.ptr 1 0) (.uq 2 false 2 o')=some [.box [.pv .ga],TL false o',c]:=fun c=>rfl;have Xaf:=hc3 false o' (i+1);simp -implicitDefEqProofs only[SP,WP,fa,sevalprocAttr,Vf,fc,Wa,tg,ln,e1,t2,a1,n9,pl,ld,st,Taa,J8,Xaf,hae,d0,d1,jj,AV.WE,AV.Tq,na,Ca,AV.cut,za,Y4];exact M8 _ rfl
  ·rintro t rfl
   rw[Fab];have e1:decide ((ss.length:Int) < (ss.length:Int))=false:=Ga (by omega);generalize Pq ss=o;generalize ss.isEmpty=nl
   generalize hQ:(fun r:Ex×St=>r.1.stop=true/\_)=Q;simp -implicitDefEqProofs only[SP,WP,fa,sevalprocAttr,Vf,fc,Wa,ln,e1,Y4];subst hQ;exact⟨rfl,_,nl,rfl,by simp[Tr.aa],by simp[Tr.aa]⟩
 have st0:Ha [.box [.pv .ga],.box [.pv .ga]] 1 (.ptr 1 0) (.pv (.agg [.ga]))=some [.box [.pv .ga],.box [.pv .ga]]:=rfl;have g1:(0 < 2)=True:=by simp
 have Yaf:=hc3 true [] 0;have ld1:∀ nl out c,pa [.box [.pv .ga],TL nl out,c] true 1 (.ptr 1 0)=some (.agg [.uq 2 nl 2 out]):=fun nl out c=>rfl;have st1:∀ nl out b c,Ha [.box [.pv .ga],b,c] 1 (.ptr 0 0) (.agg [.uq 2 nl 2 out])=some [TL nl out,b,c]:=fun nl out b c=>rfl;have ld2:∀ nl out b c,pa [TL nl out,b,c] true 1 (.ptr 0 0)=some (.agg [.uq 2 nl 2 out]):=fun nl out b c=>rfl;apply bl;unfold x6;generalize Pq ss=o at *;generalize ss.isEmpty=em at *
 simp -implicitDefEqProofs only[Wi,SP,WP,fa,sevalprocAttr,Vk,G8,fc,Wa,st0,fe,g1,Db,Yaf,hae,d0,d1,na,Ca,AV.cut,za];refine wa D7 ?_;rintro r ⟨E,nl,rfl,k2,k3⟩;cases em <;> simp -implicitDefEqProofs only[SP,WP,fa,sevalprocAttr,k2,k3,ld1,st1,ld2]
theorem qY{ls:List (List (Int×Int))}(hl:ls.length<=maxLen)(h:∀ l∈ls,l.length * 16<=140737488355328):xf (L2 ls) ls (RC ls):=by
 refine⟨?_,by simp[RC],?_,hl⟩
 ·cases ls with
  |nil=>exact .inl ⟨rfl,rfl⟩
  |cons a r=>exact .inr rfl
 ·intro k v l hv hl
  rw[RC,Faa,hl] at hv;simp at hv;subst hv;exact⟨.inr rfl,h l (sab hl)⟩
theorem wQ{S:PV}{ss:List Ob}{es:List PV}(hS:qb S ss es):qb (x6 ss) ss (Pq ss):=by
 refine⟨?_,by simp[Pq],?_,hS.sz⟩
 ·cases ss with
  |nil=>exact .inl ⟨rfl,rfl⟩
  |cons a r=>exact .inr rfl
 ·intro k e s he hs
  rw[Pq,Faa,hs] at he;simp at he;subst he;obtain⟨i,hi⟩:=Eab (sab hs);obtain⟨hk,hks⟩:=qaa.1 hs
  obtain⟨e',P,ps,_,_,hP⟩:=hS.get hk
  rw[hks] at hP;exact⟨L2 s.parts,RC s.parts,rfl,qY hP.parts.sz (hS.M6 s (sab hs))⟩
attribute [local irreducible] qd
open Go.AM
def Mg(l:List (List de)):Nat->Int->List Int->Int×Int
 |i,_,[]=>(i,2)
 |i,st,b::r=>if (Nd l st b).2=false then ((i:Int),3) else if (Nd l st b).1= -1 then (((i+1:Nat):Int),1) else Mg l (i+1) (Nd l st b).1 r
section
variable (call:Sa)(A B:PV)(l:List (List de))(hA:Ip A l)(bs:List Int)(hB:Zh 1 B (bs.map u8))(hb:∀ b∈bs,0<=b/\b<=255)(hw:bs.length<=maxLen)
include hA hB hb hw
end
section
variable (A:PV)(l:List (List de))(hA:Ip A l)
include hA
end
section
variable (call:Sa)(av bs:List PV)(i:Nat)(a b:List de)(V W:PV)(hia:i < av.length)(hib:i < bs.length)(hV:av[i]? =some V)(hW:bs[i]? =some W)(hVL:Zh 3 V (a.map bI))(hWL:Zh 3 W (b.map bI))(hw:a.length<=maxLen)
include hia hV hVL
include hib hW hWL hw
end
section
variable (A B:PV)(l m:List (List de))(hA:Ip A l)(hB:Ip B m)
include hA hB
end
theorem vE(row:List Int):∀ (xs:List Nat)(l:List de),(Re row xs l).length<=l.length+xs.length
 | [],l=>by simp[Re]
 |x::xs,l=>by rw[Re];have h1:=vE row xs (pg x (row.getD x 0) l);have h2:=MI x (row.getD x 0) l;simp only[Raa];omega
theorem fP(row:List Int):(xg row).length<=256:=by
 have:=vE row (List.range 256) [];simpa[xg] using this
theorem tH(C:List Int):∀ (k:Nat)(r:List Int×List (List de)),(ak C k r).2.length<=r.2.length+k/\∀ e∈(ak C k r).2,e∈r.2\/e.length<=256
 |0,r=>⟨by simp[ak],fun e he=> .inl he⟩
 |k+1,r=>by
  cases ho:r.1[r.2.length]? with
  |none=>rw[Sr ho];exact⟨by omega,fun e he=> .inl he⟩
  |some o=>
   rw[Kt ho];obtain⟨h1,h2⟩:=tH C k ((Dg C o r.1).1,r.2++[xg (Dg C o r.1).2]);simp only[Aaa,tad] at h1;refine⟨by omega,fun e he=> ?_⟩;rcases h2 e he with h3 | h3
   ·simp only[Naa,Sab] at h3
    rcases h3 with h3 | h3
    ·exact .inl h3
    ·refine .inr ?_;rw[h3];exact fP _
   ·exact .inr h3
theorem VS(C:List Int)(k:Nat)(o:List Int):(ak C k (o,[])).2.length<=k/\∀ e∈(ak C k (o,[])).2,e.length<=256:=by
 have h:=tH C k (o,[]);generalize ak C k (o,[])=r at h ⊢;refine⟨by simpa using h.1,fun e he=> ?_⟩;rcases h.2 e he with h | h
 ·cases h
 ·exact h
set_option maxRecDepth 8000 in
theorem xU(C:List Int):(dp C).length<=64/\∀ e∈dp C,e.length<=256:=VS C 64 [0]
theorem CC{ss:List Ob}{l:List (List de)}(h:ig ss=some l):l.length<=64/\∀ e∈l,e.length<=256:=by
 unfold ig at h;rw[faa] at h;obtain⟨r,_,rfl⟩:=h;exact xU _
theorem eO(e:List de):Zh 3 (Ee e) (e.map bI):=by
 unfold Ee;cases e with
 |nil=>exact .inl ⟨rfl,rfl⟩
 |cons a r=>exact .inr rfl
theorem vG{l:List (List de)}(h1:l.length<=64)(h2:∀ e∈l,e.length<=256):Ip (Kk l) l:=by
 refine⟨⟨l.map Ee,.inr rfl,by simp,?_⟩,by omega,fun e he=>by have:=h2 e he;omega⟩;intro i v e hv he;rw[Faa,he] at hv;simp at hv;subst hv;exact eO e
theorem bD:Ip .ga []:=⟨⟨[],.inl ⟨rfl,rfl⟩,rfl,by simp⟩,by simp,by simp⟩
theorem CQ(ss:List Ob):∃ (V:PV)(l:List (List de))(n:Int),Ip V l/\(n=0↔∃ l',ig ss=some l'/\Xb ss/\Df ss/\V=Kk l'/\l=l')/\(n≠0->V= .ga)/\
 (∀ (A:PV)(ea:List PV),qb A ss ea->Ic [.agg [A]]=some (.mc [.agg [V],i64 n]))/\(∀ (A:PV)(ea:List PV),qb A ss ea->Ya [.agg [A]]=some (.mc [.agg [V],i64 n])):=by
 by_cases h1:Xb ss
 ·by_cases h2:Df ss
  ·cases h3:ig ss with
   |none=>exact⟨.ga,[],130,bD,⟨fun h=>(by cases h),fun ⟨_,h,_⟩=>(by cases h)⟩,fun _=>rfl,fun A ea h=>(nj h).2.2.1 h1 h2 h3,fun A ea h=>(Np h).2.2.1 h1 h2 h3⟩
   |some l=>obtain⟨k1,k2⟩:=CC h3;exact⟨Kk l,l,0,vG k1 k2,⟨fun _=>⟨l,rfl,h1,h2,rfl,rfl⟩,fun _=>rfl⟩,fun h=>absurd rfl h,fun A ea h=>(nj h).2.2.2 h1 h2 l h3,fun A ea h=>(Np h).2.2.2 h1 h2 l h3⟩
  ·exact⟨.ga,[],110,bD,⟨fun h=>(by cases h),fun ⟨_,_,_,h,_⟩=>absurd h h2⟩,fun _=>rfl,fun A ea h=>(nj h).2.1 h1 h2,fun A ea h=>(Np h).2.1 h1 h2⟩
 ·exact⟨.ga,[],84,bD,⟨fun h=>(by cases h),fun ⟨_,_,h,_⟩=>absurd h h1⟩,fun _=>rfl,fun A ea h=>(nj h).1 h1,fun A ea h=>(Np h).1 h1⟩
def Zo(es:List de):PV:= .agg ((List.range 256).map fun b=> .int .i8 (Kl es b))
theorem WD{α:Type}{cs vs:List α}(h:vs.length=cs.length):fa cs 0 vs=vs:=by
 apply Vab;intro p;rw[So.Nh]
 by_cases hp:p < cs.length
 ·rw[dif_pos ⟨by omega,by omega,hp⟩];simp
 ·rw[dif_neg (by omega),Yaa (by omega),Yaa (by omega)]
theorem setRow_self{α:Type}(cs:List α):fa cs 0 cs=cs:=WD rfl
theorem LR:ba.box ((List.replicate 256 (PV.int .i8 0)).map .pv)=b8 fun _=>0:=by
 unfold b8 cellsOf;rw[List.map_const',mac,xad]
theorem vZ(n:Nat):(List.replicate n (AV.pv (.int .i8 0))).all AV.one=true:=by
 rw[aab];intro x hx;rw[Fad hx];rfl
def Xx(o0 o1 o4 o5:ba)(c0 c1 c3 c4 c5:AV)(nl:Bool)(es:List PV):List ba:=[o0,o1,.box [c0,c1,.uq 3 nl 256 es,c3,c4,c5],.tok 256 es.length nl,o4,o5]
section
variable {call:Sa}{o0 o1 o4 o5:ba}{c0 c1 c3 c4 c5:AV}
 (hg:∀ nl es,Vd (Xx o0 o1 o4 o5 c0 c1 c3 c4 c5 nl es))
include hg
theorem DW{E:Tr}{V:PV}{l:List (List de)}{i:Nat}{nl:Bool}{es:List PV}(hV:Zh 1 V (l.map Ee))(hl:l.length<=64)(hle:∀ e∈l,e.length<=256)(Ba:∀ e∈l,sj e)(hi:i < l.length)(he:es.length=i)
 (h8:E.get 8= .ptr 2 0) (h101:E.get 101= .pv V) (h102:E.get 102= .pv (i64 l.length)) (h103:E.get 103= .pv (i64 i)):
 qd (fun r=>∃ E',r=(.norm,⟨E',Xx o0 o1 o4 o5 c0 c1 c3 c4 c5 false (es++[Zo l[i]])++[b8 (Kl l[i])]⟩)/\Xe [8,101,102] E E'/\E'.get 103= .pv (i64 (i+1:Nat)))
  (oa call Qi ⟨E,Xx o0 o1 o4 o5 c0 c1 c3 c4 c5 nl es⟩):=by
 have hV1:=hV.lit (i:=i) (by simpa using hi)
 have hml:=saa hi;have hie:=Ba _ hml;have dai:=hle _ hml;have hA:=hg nl es;have hAl:(Xx o0 o1 o4 o5 c0 c1 c3 c4 c5 nl es).length=6:=rfl
 have e1:decide ((i:Int) < (l.length:Int))=true:=Ea (by omega);have t1:IntKind.i64.wrap ((i:Int)+1)=((i+1:Nat):Int):=sg (by omega)
 have hvc:(Ee l[i]).cells=[Ee l[i]]:=by unfold Ee;split <;> rfl
 have a1:ta (Xx o0 o1 o4 o5 c0 c1 c3 c4 c5 nl es) 1 (.pv V) (i:Int)=some (.pv (.rp [Ee l[i]] 0)):=by rw[hV1];simp only[ta];rw[if_pos ⟨trivial,by unfold Ia;rw[paa];omega⟩,Eaa,Faa,caa hi,Kaa,Kaa,hvc]
 have hL:=eO l[i];have lL:=hL.len
 rw[paa] at lL;have Qak:=fun (E2:Tr)(q8:E2.get 8= .ptr 2 0)(q12:E2.get 12= .pv (Ee l[i]))(q13:E2.get 13= .ptr 6 0)(xab:E2.get 101= .pv V)(yab:E2.get 102= .pv (i64 l.length))(zab:E2.get 103= .pv (i64 i))(bag:E2.get 108= .pv (i64 0))=>
  WV (call:=call) hA (g0:=fun _=>0) (tb:=2) (by rw[hAl];omega) q8 q12 q13 xab yab zab bag
 have Rak:=fun (E2:Tr)(q8:E2.get 8= .ptr 2 0)(q13:E2.get 13= .ptr 6 0)(xab:E2.get 101= .pv V)(yab:E2.get 102= .pv (i64 l.length))(zab:E2.get 103= .pv (i64 i))(Aab:E2.get 114= .pv (Ee l[i]))(Bab:E2.get 115= .pv (i64 l[i].length))(Saa:E2.get 116= .pv (i64 0))=>
  sW (call:=call) hA (tb:=2) hie hL dai (by rw[hAl];omega) q8 q13 xab yab zab Aab Bab Saa
 generalize l[i]=ed at *;have s0:Ha (Xx o0 o1 o4 o5 c0 c1 c3 c4 c5 nl es++[b8 fun _=>0]) 256 (.ptr 6 0) (.pv (.agg (List.replicate 256 (PV.int .i8 0))))=some (Xx o0 o1 o4 o5 c0 c1 c3 c4 c5 nl es++[b8 fun _=>0]):=by have hq:=Gk (Xx o0 o1 o4 o5 c0 c1 c3 c4 c5 nl es) (b8 fun _=>0);have hs:=Vp (Xx o0 o1 o4 o5 c0 c1 c3 c4 c5 nl es) (b8 fun _=>0) (b8 fun _=>0);rw[hAl] at hq hs;simp only[Ha,hq,AV.cells,PV.cells,paa,cac,xad];rw[if_pos ⟨trivial,vZ 256⟩];rw[<- LR,xad] at hs ⊢;simp only[cac];rw[if_pos (by omega),setRow_self,hs]
 generalize hA1:Xx o0 o1 o4 o5 c0 c1 c3 c4 c5 nl es++[b8 fun _=>0]=A1 at *;have hbz:Xx o0 o1 o4 o5 c0 c1 c3 c4 c5 nl es++[ba.box ((List.replicate 256 (PV.int .i8 0)).map .pv)]=A1:=by rw[LR];exact hA1
 have e8:=So.Tf (List.replicate 256 (PV.int .i8 0))
 rw[xad] at e8 hbz;generalize hA0:Xx o0 o1 o4 o5 c0 c1 c3 c4 c5 nl es=A0 at *;generalize hQ:(fun r:Ex×St=>∃ E',r=_/\_)=Q;simp -implicitDefEqProofs only[SX,sevalprocAttr,-List.reduceReplicate,Qi,h8,h101,h102,h103,e1,a1,Wa,e8,hAl,hbz,s0,xad];generalize U7:(Tr.set _ 108 _:Tr)=E2;have k2:Xe [8,101,102,103] E E2:=by
  rw[<- U7]
  repeat refine Xe.set ?_ rfl
  exact Xe.refl _ _
 have q12:E2.get 12= .pv (Ee ed):=by rw[<- U7];simp[Tr.aa,-List.reduceReplicate]
 have q13:E2.get 13= .ptr 6 0:=by rw[<- U7];simp[Tr.aa,-List.reduceReplicate]
 have bag:E2.get 108= .pv (i64 0):=by rw[<- U7];simp[Tr.aa,-List.reduceReplicate]
 refine wa (Qak E2 ((k2 8 (by simp)).trans h8) q12 q13 ((k2 101 (by simp)).trans h101) ((k2 102 (by simp)).trans h102) ((k2 103 (by simp)).trans h103) bag) ?_;rintro r ⟨_,E3,rfl,k3⟩;have k3:Xe [8,12,13,101,102,103] E2 E3:=k3;have z12:=(k3 12 (by simp)).trans q12
 simp -implicitDefEqProofs only[SX,sevalprocAttr,-List.reduceReplicate,z12,lL];generalize nad:(Tr.set _ 116 _:Tr)=E4;have k4:Xe [8,101,102,103] E E4:=by
  rw[<- nad]
  repeat refine Xe.set ?_ rfl
  exact k2.trans (Xe.sub k3 rfl)
 have q13:E4.get 13= .ptr 6 0:=by rw[<- nad];simp[Tr.aa];exact (k3 13 (by simp)).trans q13
 have Aab:E4.get 114= .pv (Ee ed):=by rw[<- nad];simp[Tr.aa]
 have Bab:E4.get 115= .pv (i64 ed.length):=by rw[<- nad];simp[Tr.aa]
 have Saa:E4.get 116= .pv (i64 0):=by rw[<- nad];simp[Tr.aa]
 refine wa (Rak E4 ((k4 8 (by simp)).trans h8) q13 ((k4 101 (by simp)).trans h101) ((k4 102 (by simp)).trans h102) ((k4 103 (by simp)).trans h103) Aab Bab Saa) ?_;rintro r ⟨_,E5,rfl,k5⟩;have k5:Xe [8,13,101,102,103] E4 E5:=k5;have k5':Xe [8,101,102,103] E E5:=k4.trans (Xe.sub k5 rfl)
 have z8:=(k5' 8 (by simp)).trans h8
 have Sak:=(k5' 103 (by simp)).trans h103
 have z13:=(k5 13 (by simp)).trans q13
 have p2:∀ d,place (A0++[b8 (Kl ed)]) d (.ptr 2 0)=some (.ptr 2 (0+d)):=fun d=>Wg (by rw[<- hA0];rfl) d 0;have l2:pa (A0++[b8 (Kl ed)]) false 1 (.ptr 2 2)=some (.uq 3 nl 256 es):=by rw[<- hA0];rfl
 have l13:pa (A0++[b8 (Kl ed)]) true 256 (.ptr 6 0)=some (.pv (Zo ed)):=by
  have hgt:(A0++[b8 (Kl ed)])[6]? =some (b8 (Kl ed)):=by rw[<- hA0];rfl
  have hl:(cellsOf 256 fun b=>AV.pv (.int .i8 (Kl ed b))).length=256:=Yg _ _
  have:cellsOf 256 (fun b=>AV.pv (.int .i8 (Kl ed b)))=((List.range 256).map fun b=>PV.int .i8 (Kl ed b)).map .pv:=by rw[cellsOf,wad];rfl
  rw[pa,hgt];show Lh true 256 (cellsOf 256 fun b=>AV.pv (.int .i8 (Kl ed b))) 0=_;rw[Lh,if_pos rfl,if_pos (by rw[hl];exact waa _),Aac,Zaa (by rw[hl];exact waa _),this,gv,So.Tf];rfl
 have Taa:Cb (A0++[b8 (Kl ed)]) false .uq 256 true 256 (.uq 3 nl 256 es) (.pv (.lit 256 [Zo ed]))=some (.uq 3 false 256 (es++[Zo ed]),[o0,o1,.box [c0,c1,.uq 3 nl 256 es,c3,c4,c5],.tok 256 (es.length+1) false,o4,o5,b8 (Kl ed)]):=by rw[<- hA0];simp only[Cb,Xx,Kf,fab,cab,mab,jab,if_true,Daa,Raa,Dab];rw[taa (by simp)];rw[if_pos ⟨trivial,trivial,trivial,by unfold eb;omega⟩];simp
 have p3:∀ d,place [o0,o1,.box [c0,c1,.uq 3 nl 256 es,c3,c4,c5],.tok 256 (es.length+1) false,o4,o5,b8 (Kl ed)] d (.ptr 2 0)=some (.ptr 2 (0+d)):=fun d=>Wg rfl d 0;have s3:Ha [o0,o1,.box [c0,c1,.uq 3 nl 256 es,c3,c4,c5],.tok 256 (es.length+1) false,o4,o5,b8 (Kl ed)] 1 (.ptr 2 2) (.uq 3 false 256 (es++[Zo ed]))=some (Xx o0 o1 o4 o5 c0 c1 c3 c4 c5 false (es++[Zo ed])++[b8 (Kl ed)]):=by
  have:(es++[Zo ed]).length=es.length+1:=by simp
  unfold Xx;rw[this];rfl
 obtain⟨N,hN⟩:∃ N,N=(List.range 256).map fun b=>PV.int .i8 (Kl ed b):=⟨_,rfl⟩
 have hNl:N.length=256:=by rw[hN,paa,mac]
 have hNo:(N.map AV.pv).all AV.one=true:=by rw[hN,aab];intro x hx;rw[oab] at hx;obtain⟨y,hy,rfl⟩:=hx;rw[oab] at hy;obtain⟨z,_,rfl⟩:=hy;rfl
 have hNP:Zo ed= .agg N:=by rw[hN];rfl
 rw[hNP] at l13 Taa s3 hQ;have m0:(PV.agg N).cells=N:=rfl
 have m1:fa (List.map AV.pv (List.replicate 256 (PV.int .i8 0))++[]) 0 (N.map .pv)=N.map .pv:=WD (by rw[paa,Aaa,paa,cac,hNl];rfl)
 have m2:(N.map AV.pv).length=256:=by rw[paa,hNl]
 have m3:=So.Tf N
 have m5:(256<=(List.map AV.pv (List.replicate 256 (PV.int .i8 0))++[]).length)=True:=Laa (by rw[Aaa,paa,cac];exact Nat.le_add_right _ _);have m6:List.take 256 N=N:=Zaa (by omega)
 clear hN hNP;simp -implicitDefEqProofs only[SP,WP,fa,sevalprocAttr,-List.reduceReplicate,z8,Sak,z13,p2,l2,l13,Taa,p3,s3,t1,m0,m1,m2,m3,m5,m6,hNo];subst hQ;refine⟨_,rfl,?_,by simp[Tr.aa]⟩
 repeat refine Xe.set ?_ rfl
 exact Xe.sub k5' rfl
end
theorem dw{p:Int×Int}(h0:0<=p.1)(h1:p.1<=p.2):((dg 0 p).length:Int)=p.2 - p.1+1:=by
 rw[eM h0 h1,paa,mac];omega
theorem sB{p:Int×Int}(h0:0<=p.1)(h1:p.1<=p.2){k:Nat}(hk:(k:Int) < p.2 - p.1+1):(dg 0 p)[k]? =some (p.1+k):=by
 rw[eM h0 h1,Faa,lad (by omega)];rfl
theorem gC{top:Int}:∀ {l:List (Int×Int)}{last:Int}(n:Int),Pa top last l=true->ib n l=n+(Nl l).length
 | [],_,n,_=>by simp[ib,Nl]
 |p::l,last,n,h=>by
  obtain⟨h1,h2,h3,h4,h5⟩:=Uc h;replace h1:0<=p.1:=by omega
  replace h2:p.1<=p.2:=by omega
  have hl:=dw h1 h2;rw[ib,gC _ h5,Nl,Aaa];omega
theorem Gu{top:Int}:∀ {l:List (Int×Int)}{last:Int}{n x:Int}{k:Nat},Pa top last l=true->(Nl l)[k]? =some x->Md x n l=(n+k,true)/\0<=x/\x<=top/\last+1 < x
 | [],_,n,x,k,_,hk=>by simp[Nl] at hk
 |p::l,last,n,x,k,h,hk=>by
  obtain⟨h1,h2,h3,h4,h5⟩:=Uc h;replace h1:0<=p.1:=by omega
  replace h2:p.1<=p.2:=by omega
  have hl:=dw h1 h2;rw[Nl] at hk;rcases Xaa k (dg 0 p).length with hlt | hge
  ·rw[gaa hlt,sB h1 h2 (by omega)] at hk
   injection hk with hk
   subst hk;rw[Md,taa (by omega),if_pos (by omega)];exact⟨by rw[vaa];exact⟨by omega,rfl⟩,by omega,by omega,by omega⟩
  ·rw[Paa hge] at hk
   obtain⟨g1,g2,g3,g4⟩:=Gu (n:=n+(p.2 - p.1+1)) h5 hk;rw[Md,taa (by omega),taa (by omega),g1];exact⟨by rw[vaa];exact⟨by omega,rfl⟩,g2,g3,by omega⟩
theorem fx{top:Int}:∀ {l:List (Int×Int)}{last:Int}{n x:Int},Pa top last l=true->(Md x n l).2=true->∃ k:Nat,(Nl l)[k]? =some x/\(Md x n l).1=n+k
 | [],_,n,x,_,hk=>by simp[Md] at hk
 |p::l,last,n,x,h,hk=>by
  obtain⟨h1,h2,h3,h4,h5⟩:=Uc h;replace h1:0<=p.1:=by omega
  replace h2:p.1<=p.2:=by omega
  have hl:=dw h1 h2;rw[Md] at hk ⊢
  by_cases c1:x < p.1
  ·rw[if_pos c1] at hk;cases hk
  ·rw[taa c1] at hk ⊢
   by_cases c2:x<=p.2
   ·rw[if_pos c2]
    refine⟨(x - p.1).toNat,?_,by show n+x - p.1=_;omega⟩;rw[Nl,gaa (by omega),sB h1 h2 (by omega)]
    congr 1;omega
   ·rw[taa c2] at hk ⊢
    obtain⟨k,g1,g2⟩:=fx h5 hk;refine⟨(dg 0 p).length+k,?_,by rw[g2];omega⟩;rw[Nl,Paa (by omega),Eac];exact g1
theorem DI:∀ (l:List (Int×Int)),Ra bJ (ae l)=some l
 | []=>rfl
 |p::l=>by
  show (bJ (pr p)).bind _=_
  have:bJ (pr p)=some p:=rfl;rw[this,Daa];show ((Ra bJ (ae l)).bind fun bs=>some (p::bs))=_;rw[DI l];rfl
theorem nV{v:PV}{l:List (Int×Int)}(h:Zh 2 v (ae l)):aH v=some l:=by
 rcases h with⟨rfl,h⟩ | rfl
 ·cases l with
  |nil=>rfl
  |cons p l=>cases h
 ·exact DI l
theorem LF{v:PV}{l:List (Int×Int)}(h:Zh 2 v (ae l))(hv:Pa 255 (-2) l=true)(hlen:l.length<=4611686018427387904):
 fm [.rp [v] 0,.rp [i64 0] 0]=some ((Nl l).map fun x=>[i64 x]):=by
 have hsm:l.all gL=true:=by
  have:∀ (l:List (Int×Int))(last:Int),Pa 255 last l=true->l.all gL=true:=by
   intro l
   induction l with
   |nil=>intro _ _;rfl
   |cons p l ih=>intro last h;obtain⟨h1,h2,h3,h4,h5⟩:=Uc h;rw[zac,ih _ h5,mae];exact decide_eq_true (by omega)
  exact this l _ hv
 simp only[fm,nV h,Daa,hsm,uab];rw[if_pos (decide_eq_true (by omega)),P1]
theorem rI{v:PV}{l:List (Int×Int)}(hv:iq v l)(hp:Hd l):∃ u,Zh 2 u (ae l)/\∀ H,Da Gh 8 39 [.pv v,.pv (i64 0)] H=some (.Ol 35 [.pv (.rp [u] 0),.pv (.rp [i64 0] 0)],H):=by
 obtain⟨u,q1,q2⟩:=mA v l hv.is hv.sz
 rw[uK hp.2] at q2;refine⟨u,q2,fun H=> ?_⟩;have hu1:(AV.pv u).one=true:=by rcases q2 with⟨h,_⟩ | h <;> rw[h] <;> rfl
 have huc:(AV.pv u).cells=[.pv u]:=by rcases q2 with⟨h,_⟩ | h <;> rw[h] <;> rfl
 have c38:Gh 38=some bw:=rfl;rw[ai Gh 7 39 _ H (f:=cn) rfl];simp -implicitDefEqProofs only[SX,sevalprocAttr,cn,bw,q1,c38,hu1,huc]
def u5(v:AV)(H:List ba)(es:List PV):Prop:=(es=[]/\v= .pv .ga)\/(∃ tk,es≠[]/\v= .uq tk false 1 es/\H[tk]? =some (.tok 1 es.length false))
theorem u1{x:Int}(h0:0<=x)(h1:x<=255):IntKind.u8.wrap x=x:=by
 unfold IntKind.wrap
 simp[IntKind.signed,IntKind.bits];omega
theorem WX{x:Int}(h0:0<=x)(h1:x<=65535):IntKind.u16.wrap x=x:=by
 unfold IntKind.wrap
 simp[IntKind.signed,IntKind.bits];omega
theorem fW(call:Sa){e:Tr}{H:List ba}{bx oid m off fl:Nat}{g:Nat->AV}{x:Int}{es:List PV}(h6:e.get 6= .ptr bx 0)(h7:e.get 7= .pv (i64 x))(hb:H[bx]? =some (.box [.Ec oid m off]))(ho:H[oid]? =some (.seq 258 true (cellsOf m g) fl false))
 (hoff:off+258<=m) (hx0:0<=x) (hx1:x<=255) (hB:u5 (g off) H es) (hlen:es.length<=255):
 ∃ s' o8 v,o8<=m/\oa call om ⟨e,H⟩=some (.norm,s')/\s'.H[bx]? =some (.box [.Ec oid m off])/\
  s'.H[oid]? =some (.seq 258 true (cellsOf m (Rx (Rx g off v) (off+1+x.toNat) (.pv (.int .u16 (es.length+1))))) o8 false)/\u5 v s'.H (es++[.int .u8 x])/\∀ (j:Nat) c,H[j]? =some (.box c)->s'.H[j]? =some (.box c):=by
 have hbo:bx≠oid:=by intro e;subst e;rw[hb] at ho;cases ho
 have wx:=u1 hx0 hx1;have l6:pa H false 1 (.ptr bx 0)=some (.Ec oid m off):=by simp[pa,hb,Lh]
 have lo:=wF (off:=off) ho rfl (by omega);have po:∀ d,place H d (.Ec oid m off)=some (.Ec oid m (off+d)):=fun d=>jv ho rfl;have app:∃ v H1,Cb H false .uq 1 false 1 (g off) (.pv (.lit 1 [.int .u8 x]))=some (v,H1)/\u5 v H1 (es++[.int .u8 x])/\H1[bx]? =some (.box [.Ec oid m off])/\H1[oid]? =some (.seq 258 true (cellsOf m g) fl false)/\v.cells=[v]/\v.one=true/\(∀ K,Tb K 0 v=some (es.length+1))/\∀ (j:Nat) c,H[j]? =some (.box c)->H1[j]? =some (.box c):=by
  rcases hB with⟨rfl,hg⟩ | ⟨tk,I7,hg,Z7⟩
  ·refine⟨.uq H.length false 1 [.int .u8 x],H++[.tok 1 1 false],by rw[hg];simp[Cb,Kf,Oq],.inr ⟨H.length,by simp,rfl,by simp⟩,?_,?_,rfl,rfl,fun _=>rfl,fun j c hj=>by rw[getElem?_push (getElem?_lt hj)];exact hj⟩
   ·rw[getElem?_push (getElem?_lt hb)];exact hb
   ·rw[getElem?_push (getElem?_lt ho)];exact ho
  ·have h1:tk≠bx:=by intro e;subst e;rw[hb] at Z7;cases Z7
   have h2:tk≠oid:=by intro e;subst e;rw[ho] at Z7;cases Z7
   refine⟨.uq tk false 1 (es++[.int .u8 x]),H.set tk (.tok 1 (es.length+1) false),?_,.inr ⟨tk,by simp,rfl,by rw[Qaa (getElem?_lt Z7)];simp⟩,?_,?_,rfl,rfl,fun _=>by simp[Tb],fun j c hj=>by rw[Jaa (fun e=>by subst e;rw[Z7] at hj;cases hj)];exact hj⟩
   ·rw[hg];simp[Cb,Kf,Z7];omega
   ·rw[Jaa h1];exact hb
   ·rw[Jaa h2];exact ho
 obtain⟨v,H1,ha,hB1,H8,ho1,hv1,hv2,hv3,Tak⟩:=app;have po1:∀ d,place H1 d (.Ec oid m off)=some (.Ec oid m (off+d)):=fun d=>jv ho1 rfl;have st1:=eD (off:=off) ho1 rfl (by omega) hv1 hv2;generalize Z9:H1.set oid (.seq 258 true (cellsOf m (Rx g off v)) m false)=H2 at st1
 have s8:H2[bx]? =some (.box [.Ec oid m off]):=by rw[<- Z9,Jaa (rac hbo)];exact H8
 have ho2:H2[oid]? =some (.seq 258 true (cellsOf m (Rx g off v)) m false):=by rw[<- Z9,Qaa (getElem?_lt ho1)]
 have l62:pa H2 false 1 (.ptr bx 0)=some (.Ec oid m off):=by simp[pa,s8,Lh]
 have lo2:=wF (off:=off) ho2 rfl (by omega);rw[dv] at lo2;have po2:∀ d off',place H2 d (.Ec oid m off')=some (.Ec oid m (off'+d)):=fun d off'=>jv ho2 rfl;have w2:IntKind.u16.wrap ((es.length+1:Nat):Int)=(es.length:Int)+1:=by rw[WX (by omega) (by omega)];omega
 have st2:=eD (off:=off+1+x.toNat) (v:= .pv (.int .u16 ((es.length:Int)+1))) ho2 rfl (by omega) rfl rfl;have iae:(0<=x/\x < ((256:Nat):Int))=True:=Laa (by omega);generalize hH3:H2.set oid (.seq 258 true (cellsOf m (Rx (Rx g off v) (off+1+x.toNat) (.pv (.int .u16 ((es.length:Int)+1))))) m false)=H3 at st2
 have key:qd (fun r=>r.1= .norm/\r.2.H=H3) (oa call om ⟨e,H⟩):=by
  clear hB hB1 hb ho H8 ho1 s8 ho2 Z9 hH3;have hsr:fa [AV.pv (PV.int .u8 0)] 0 [AV.pv (PV.int .u8 x)]=[AV.pv (PV.int .u8 x)]:=rfl;have hal:([AV.pv (PV.int .u8 x)].all AV.one=true)=True:=Laa rfl;have hfr:fresh H .lit 1 false 1 [AV.pv (PV.int .u8 x)]=some (.pv (.lit 1 [.int .u8 x]),H):=rfl
  generalize hQ:(fun r:Ex×St=>r.1=Ex.norm/\_)=Q;simp -implicitDefEqProofs only[SX,sevalprocAttr,om,h6,h7,l6,lo,po,wx,ha,po1,st1,l62,lo2,po2,hv3,w2,iae,st2,hsr,hal,hfr];subst hQ;exact⟨rfl,rfl⟩
 obtain⟨⟨ex,s'⟩,h1,h2,h3⟩:=wc key;simp only at h2 h3;subst h2;refine⟨s',m,v,waa _,h1,?_,?_,?_,fun j c hj=> ?_⟩
 ·rw[h3,<-hH3,Jaa (rac hbo)];exact s8
 ·rw[h3,<-hH3];exact Qaa (getElem?_lt ho2)
 ·rcases hB1 with h | ⟨tk,q1,q2,q3⟩
  ·exact .inl h
  ·have h4:tk≠oid:=by intro e;subst e;rw[ho1] at q3;cases q3
   refine .inr ⟨tk,q1,q2,?_⟩
   rw[h3,<-hH3,Jaa (rac h4),<-Z9,Jaa (rac h4)];exact q3
 ·have hj1:=Tak j c hj
  have I7:oid≠j:=fun e=>by subst e;rw[ho1] at hj1;cases hj1
  rw[h3,<-hH3,Jaa I7,<-Z9,Jaa I7];exact hj1
def U5(x:Int):PV:= .int .u8 x
theorem of_inner(call:Sa){e:Tr}{bx oid m off:Nat}(h6:e.get 6= .ptr bx 0)(hoff:off+258<=m):∀ (xs:List Int){H:List ba}{fl:Nat}{g:Nat->AV}{es:List PV},H[bx]? =some (.box [.Ec oid m off])->H[oid]? =some (.seq 258 true (cellsOf m g) fl false)->
 (∀ x∈xs,0<=x/\x<=255)->xs.Nodup->u5 (g off) H es->es.length+xs.length<=256->
 ∃ H' o8 g',(fl<=m->o8<=m)/\Lj (fun x H=>oa call om ⟨jD [(7,40)] (xq [40] x e),H⟩) (xs.map fun x=>[i64 x]) H=some (.norm,H')/\H'[bx]? =some (.box [.Ec oid m off])/\H'[oid]? =some (.seq 258 true (cellsOf m g') o8 false)/\
  u5 (g' off) H' (es++xs.map U5)/\(∀ j,j≠off->(∀ x∈xs,j≠off+1+x.toNat)->g' j=g j)/\(∀ (k:Nat) x,xs[k]? =some x->g' (off+1+x.toNat)= .pv (.int .u16 ((es.length+k:Nat)+1)))/\∀ (j:Nat) c,H[j]? =some (.box c)->H'[j]? =some (.box c):=by
 intro xs
 induction xs with
 |nil=>intro H fl g es hb ho _ _ hB _;exact⟨H,fl,g,id,rfl,hb,ho,by simpa using hB,fun _ _ _=>rfl,fun k x h=>by simp at h,fun _ _ h=>h⟩
 |cons x xs ih=>
  intro H fl g es hb ho hx hnd hB hlen;obtain⟨hx0,hx1⟩:=hx x (by simp);have Xac:=List.nodup_cons.1 hnd
  have e6:(jD [(7,40)] (xq [40] [i64 x] e)).get 6= .ptr bx 0:=by simp[jD,xq,Tr.aa,h6]
  have e7:(jD [(7,40)] (xq [40] [i64 x] e)).get 7= .pv (i64 x):=by simp[jD,xq,Tr.aa]
  obtain⟨s',o8,v,q0,q1,q2,q3,q4,q5⟩:=fW call e6 e7 hb ho hoff hx0 hx1 hB (by simp at hlen;omega);have I7:off≠off+1+x.toNat:=by omega
  obtain⟨H',fl2,g',r0,r1,r2,r3,r4,r5,r6,r7⟩:=ih (es:=es++[U5 x]) q2 q3 (fun y hy=>hx y (by simp[hy])) Xac.2 (by rw[gw _ _ I7,dv];exact q4) (by simp at hlen ⊢;omega)
  refine⟨H',fl2,g',fun _=>r0 q0,?_,r2,r3,by simpa using r4,fun j h1 h2=> ?_,fun k y hk=> ?_,fun j c hj=>r7 j c (q5 j c hj)⟩
  ·simp only[pab,Lj,q1,Xr];exact r1
  ·rw[r5 j h1 fun y hy=>h2 y (by simp[hy]),gw _ _ (h2 x (by simp)),gw _ _ h1]
  ·cases k with
   |zero=>
    simp at hk;subst hk;rw[r5 _ (by omega) (fun y hy e=>by
     have:=(hx y (by simp[hy])).1
     have:y=x:=by omega
     subst this;exact Xac.1 hy),dv]
    simp
   |succ k=>
    have:=r6 k y (by simpa using hk);rw[this]
    congr 3
    simp;omega
theorem xT{e:Tr}{H:List ba}{s:Ob}{P:PV}{ps:List PV}{sb oid fl i:Nat}{prod:Int}{g:Nat->AV}(hp:xf P s.parts ps)(hi:i < s.parts.length)(Ba:Hd s.parts[i])
 (h1:e.get 1= .pv (.rp [P,i64 s.first] 0)) (h3:e.get 3= .ptr sb 0) (h4:e.get 4= .pv (i64 prod)) (h5:e.get 5= .pv (i64 i)) (hs:H[sb]? =some (.box [.own oid s.parts.length])) (ho:H[oid]? =some (.seq 258 true (cellsOf (s.parts.length * 258) g) fl false))
 (hg:g (i * 258)= .pv .ga) (hw:IntKind.i64.wrap (prod * (Nl s.parts[i]).length)=prod * (Nl s.parts[i]).length) (hnd:(Nl s.parts[i]).Nodup) (hml:(Nl s.parts[i]).length<=256) (hmb:∀ x∈Nl s.parts[i],0<=x/\x<=255) (I7:Nl s.parts[i]≠[]) (hfl:fl<=s.parts.length * 258) (hi2:i<=4611686018427387904):
 qd (fun r=>r.1= .norm/\r.2.env.get 1= .pv (.rp [P,i64 s.first] 0)/\r.2.env.get 3= .ptr sb 0/\r.2.env.get 4= .pv (i64 (prod * (Nl s.parts[i]).length))/\r.2.env.get 5= .pv (i64 (i - 1))/\r.2.H[sb]? =some (.box [.own oid s.parts.length])/\
  ∃ o8 g',o8<=s.parts.length * 258/\r.2.H[oid]? =some (.seq 258 true (cellsOf (s.parts.length * 258) g') o8 false)/\u5 (g' (i * 258)) r.2.H ((Nl s.parts[i]).map U5)/\(∀ j,j≠i * 258->(∀ x∈Nl s.parts[i],j≠i * 258+1+x.toNat)->g' j=Rx g (i * 258+257) (.pv (i64 prod)) j)/\∀ (k:Nat) x,(Nl s.parts[i])[k]? =some x->g' (i * 258+1+x.toNat)= .pv (.int .u16 ((k:Nat)+1))) (oa (Da Gh 8) Tl ⟨e,H⟩):=by
 obtain⟨v,hv1,hv2,hv3⟩:=hp.get hi
 obtain⟨u,hu,v8⟩:=rI hv3 Ba;have hso:sb≠oid:=by intro e;subst e;rw[hs] at ho;cases ho
 have hlt:=getElem?_lt hs;have W8:=getElem?_lt ho;generalize hl:s.parts[i]=l at *
 clear hl hp;generalize hn:s.parts.length=n at *
 have p3:place H 0 (.ptr sb 0)=some (.ptr sb 0):=by simp[place,hs]
 have l3:pa H false 1 (.ptr sb 0)=some (.own oid n):=by simp[pa,hs,Lh]
 have ia:ta H 258 (.own oid n) (i:Int)=some (.Ec oid (n * 258) (i * 258)):=by simp only[ta,ho,Yg];rw[if_pos ⟨trivial,by unfold Ia;omega,by unfold Ui;omega⟩];simp
 have Z9:(H++[ba.box [.pv .qf]]).set H.length (.box [.Ec oid (n * 258) (i * 258)])=H++[ba.box [.Ec oid (n * 258) (i * 258)]]:=by rw[Xab _ _ (waa _)];simp
 have st0:Ha (H++[ba.box [.pv .qf]]) 1 (.ptr H.length 0) (.Ec oid (n * 258) (i * 258))=some (H++[ba.box [.Ec oid (n * 258) (i * 258)]]):=by rw[<- Z9];simp[Ha,AV.cells,AV.one,fa]
 have s8:(H++[ba.box [.Ec oid (n * 258) (i * 258)]])[H.length]? =some (.box [.Ec oid (n * 258) (i * 258)]):=by simp
 have ho2:(H++[ba.box [.Ec oid (n * 258) (i * 258)]])[oid]? =some (.seq 258 true (cellsOf (n * 258) g) fl false):=by rw[getElem?_push W8];exact ho
 have hs2:(H++[ba.box [.Ec oid (n * 258) (i * 258)]])[sb]? =some (.box [.own oid n]):=by rw[getElem?_push hlt];exact hs
 generalize H++[ba.box [.Ec oid (n * 258) (i * 258)]]=H2 at *;have l6:pa H2 false 1 (.ptr H.length 0)=some (.Ec oid (n * 258) (i * 258)):=by simp[pa,s8,Lh]
 have p6:∀ d,place H2 d (.Ec oid (n * 258) (i * 258))=some (.Ec oid (n * 258) (i * 258+d)):=fun d=>jv ho2 rfl;have st1:=eD (off:=i * 258+257) (v:= .pv (i64 prod)) ho2 rfl (by omega) rfl rfl;have hbo:H.length≠oid:=by omega
 have hs3:(H2.set oid (.seq 258 true (cellsOf (n * 258) (Rx g (i * 258+257) (.pv (i64 prod)))) (n * 258) false))[sb]? =some (.box [.own oid n]):=by rw[Jaa (rac hso)];exact hs2
 have hb3:(H2.set oid (.seq 258 true (cellsOf (n * 258) (Rx g (i * 258+257) (.pv (i64 prod)))) (n * 258) false))[H.length]? =some (.box [.Ec oid (n * 258) (i * 258)]):=by rw[Jaa (rac hbo)];exact s8
 have ho3:(H2.set oid (.seq 258 true (cellsOf (n * 258) (Rx g (i * 258+257) (.pv (i64 prod)))) (n * 258) false))[oid]? =some (.seq 258 true (cellsOf (n * 258) (Rx g (i * 258+257) (.pv (i64 prod)))) (n * 258) false):=Qaa (getElem?_lt ho2);generalize H2.set oid (.seq 258 true (cellsOf (n * 258) (Rx g (i * 258+257) (.pv (i64 prod)))) (n * 258) false)=H3 at *
 have w5:decide ((i:Int)>=0)=true:=decide_eq_true (by omega);have r0:∀ H (x y:PV),pa H false 1 (.pv (.rp [x,y] 0))=some (.pv x):=fun H x y=>rfl;have q0:∀ H (x y:PV),place H 0 (.pv (.rp [x,y] 0))=some (.pv (.rp [x,y] 0)):=fun H x y=>rfl;have il:∀ H,ta H 1 (.pv P) (i:Int)=some (.pv (.rp v.cells 0)):=by
  intro H;subst hv2;have hq:i < ps.length:=getElem?_lt hv1
  simp only[ta];rw[if_pos ⟨trivial,by unfold Ia;omega⟩,Eaa,hv1];rfl
 have hvc:v.cells=[v]:=by rcases hv3.is with⟨h,_⟩ | h <;> rw[h] <;> rfl
 rw[hvc] at il;have r1:∀ H (x:PV),pa H false 1 (.pv (.rp [x] 0))=some (.pv x):=fun H x=>rfl;have hlp:=Bw Ba.2
 have rv:My 35 fm 1 (.Ol 35 [.pv (.rp [u] 0),.pv (.rp [i64 0] 0)])=some ((Nl l).map fun x=>[i64 x]):=by
  have:((Nl l).map fun x=>[i64 x]).all (mX 1)=true:=by
   rw[aab];intro y hy;obtain⟨x,_,rfl⟩:=oab.1 hy
   rfl
  simp[My,Tc,LF hu Ba.2 (by omega)];exact fun _ _=>rfl
 have c39:Gh 39=some cn:=rfl;have eai:=fun H=>(ai Gh 7 39 [AV.pv v,AV.pv (i64 0)] H (f:=cn) rfl).symm.trans (v8 H)
 generalize hQ:(fun r:Ex×St=>r.1=Ex.norm/\_)=Q;simp -implicitDefEqProofs only[SX,sevalprocAttr,Tl,L1,h1,h3,h4,h5,p3,l3,ia,st0,l6,p6,st1,w5,r0,q0,il,r1,c39,eai,rv,yy];have U8:=fun (E:Tr)(h6:E.get 6= .ptr H.length 0)=>of_inner (Da Gh 8) (e:=E) h6 (off:=i * 258) (m:=n * 258) (by omega) (Nl l) (es:=[]) hb3 ho3 hmb hnd (.inl ⟨rfl,by rw[gw _ _ (by omega)];exact hg⟩) (by simpa using hml);generalize U7:(Tr.set _ 39 _:Tr)=E;have e6:E.get 6= .ptr H.length 0:=by rw[<- U7];simp[Tr.aa]
 have e1:E.get 1= .pv (.rp [P,i64 s.first] 0):=by rw[<- U7];simp[Tr.aa,h1]
 have e3:E.get 3= .ptr sb 0:=by rw[<- U7];simp[Tr.aa,h3]
 have e4:E.get 4= .pv (i64 prod):=by rw[<- U7];simp[Tr.aa,h4]
 have e5:E.get 5= .pv (i64 i):=by rw[<- U7];simp[Tr.aa,h5]
 clear U7;obtain⟨H4,fl4,g4,q0,q1,q2,q3,q4,q5,q6,q7⟩:=U8 E e6;rw[q1];have l64:pa H4 false 1 (.ptr H.length 0)=some (.Ec oid (n * 258) (i * 258)):=by simp[pa,q2,Lh]
 have p66:∀ d,place H4 d (.Ec oid (n * 258) (i * 258))=some (.Ec oid (n * 258) (i * 258+d)):=fun d=>jv q3 rfl;have l67:=wF (off:=i * 258) q3 rfl (by omega);have ln:∀ K,Tb K 0 (g4 (i * 258))=some (Nl l).length:=by
  rcases q4 with⟨h,_⟩ | ⟨tk,_,h,_⟩
  ·simp at h;exact absurd h I7
  ·intro K;rw[h];simp[Tb]
 have w1:IntKind.i64.wrap ((i:Int) - 1)=(i:Int) - 1:=Aa (by omega)
 simp -implicitDefEqProofs only[SX,sevalprocAttr,iU,e6,e1,e3,e4,e5,l64,p66,l67,ln,hw,w1];subst hQ;refine⟨rfl,?_,?_,?_,?_,?_,fl4,g4,q0 (waa _),q3,by simpa using q4,q5,fun k x hk=>by simpa using q6 k x hk⟩ <;> first | exact q7 _ _ hs3 | simp[Tr.aa,e1,e3]
abbrev fy(w:List Nat):List Int:=w.map fun (n:Nat)=>(n:Int)
theorem HG{l:List (Int×Int)}(hl:Hd l)(x:Nat):(Md (x:Int) 0 l).2=lj l x:=by
 rw[<- VI];unfold nQ;rw[uK hl.2]
theorem MH:∀ (ls:List (List (Int×Int)))(w:List Nat)(k:Int),(∀ l∈ls,Hd l)->w.length=ls.length->((Dh ls (fy w) k).isSome↔∀ (j x:Nat) l,w[j]? =some x->ls[j]? =some l->lj l x=true)
 | [],w,k,_,hl=>by have:w=[]:=yaa hl;subst this;rw[Vr];simp
 |l::ls,[],k,_,hl=>by simp at hl
 |l::ls,y::w,k,h,hl=>by
  have hp:=h l (by simp);show (Dh (l::ls) ((y:Int)::fy w) k).isSome↔_
  rw[Dh,HG hp]
  split
  ·next hm=>
   rw[MH ls w _ (fun x hx=>h x (by simp[hx])) (by simpa using hl)];constructor
   ·intro h1 j x l' hj T8
    cases j with
    |zero=>simp at hj T8;subst hj T8;exact hm
    |succ j=>exact h1 j x l' (by simpa using hj) (by simpa using T8)
   ·intro h1 j x l' hj T8
    exact h1 (j+1) x l' (by simpa using hj) (by simpa using T8)
  ·next hm=>
   constructor
   ·intro h1;cases h1
   ·intro h1;exact absurd (h1 0 y l rfl rfl) hm
theorem JJ{s:Ob}{j x:Nat}:Jo s j x=true↔∃ l,s.parts[j]? =some l/\lj l x=true:=by
 unfold Jo;cases s.parts[j]? <;> simp
theorem tP{s:Ob}(h:Be s)(w:List Nat):(Oi s (fy w)).isSome↔Full s w:=by
 unfold Oi Full
 by_cases hl:w.length=s.parts.length
 ·rw[if_pos (by rw[paa];exact hl),MH _ _ _ h.parts hl]
  unfold mo;constructor
  ·intro h1
   refine⟨fun j x hj=> ?_,hl⟩;have hjl:=(qaa.1 hj).1
   have I9:s.parts[j]? =some s.parts[j]:=caa (by omega)
   exact JJ.2 ⟨_,I9,h1 j x _ hj I9⟩
  ·rintro⟨h1,_⟩ j x l hj I9
   obtain⟨l',h3,h4⟩:=JJ.1 (h1 j x hj)
   rw[I9] at h3;injection h3 with h3;subst h3;exact h4
 ·rw[taa (by rw[paa];exact hl)]
  constructor
  ·intro h1;cases h1
  ·intro h1;exact absurd h1.2 hl
theorem rC:∀ (ls:List (List (Int×Int)))(b:List Int)(k k':Int),(∀ l∈ls,Hd l)->Dh ls b k=some k'->k<=k'/\k' < k+Na ls
 | [],b,k,k',_,h=>by rw[Vr] at h;injection h with h;subst h;rw[Na];omega
 |l::ls,[],k,k',hp,h=>by
  rw[Dh] at h
  ·injection h with h;subst h
   have:=zf hp;omega
  ·intro _ _ _ _ h2 h3;cases h3
 |l::ls,y::b,k,k',hp,h=>by
  rw[Dh] at h
  split at h
  ·next hc=>
   have h0:=hp l (by simp);have hb:=gn (x:=y) (n:=0) h0.2 hc
   obtain⟨h1,h2⟩:=rC ls b _ _ (fun x hx=>hp x (by simp[hx])) h;have h3:=zf (ls:=ls) fun x hx=>hp x (by simp[hx]);have h4:0<=(Md y 0 l).1 * Na ls:=Int.mul_nonneg hb.1 (by omega)
   have h5:((Md y 0 l).1+1) * Na ls<=ib 0 l * Na ls:=ead (by omega) (by omega);rw[Int.add_mul,Pae] at h5;rw[Na,jae (Na ls)];omega
  ·cases h
theorem ON{s:Ob}(h:Be s){b:List Int}{k:Int}(hk:Oi s b=some k):0<=k/\s.first+k<=1073741823:=by
 unfold Oi at hk
 split at hk
 ·obtain⟨h1,h2⟩:=rC _ _ _ _ h.parts hk
  have h3:=h.last
  rw[h.zi] at h3;omega
 ·cases hk
def EW:Int->List (Int×Int)->Option Int
 |_,[]=>none
 |k,p::r=>if k<=p.2 - p.1 then some (p.1+k) else EW (k - (p.2 - p.1+1)) r
theorem Bz{top:Int}:∀ {l:List (Int×Int)}{last k:Int},Pa top last l=true->0<=k->k < ib 0 l->∃ x,EW k l=some x/\0<=x/\x<=top/\last+1 < x/\∀ n,Md x n l=(n+k,true)
 | [],last,k,_,h0,h1=>by simp[ib] at h1;omega
 |p::l,last,k,hv,h0,h1=>by
  obtain⟨v1,v2,v3,v4,v5⟩:=Uc hv;rw[ib,EC] at h1;rw[EW]
  by_cases c:k<=p.2 - p.1
  ·rw[if_pos c]
   refine⟨_,rfl,by omega,by omega,by omega,fun n=> ?_⟩;rw[Md,taa (by omega),if_pos (by omega)]
   congr 1;omega
  ·rw[taa c]
   obtain⟨x,q1,q2,q3,q4,q5⟩:=Bz (k:=k - (p.2 - p.1+1)) v5 (by omega) (by omega);refine⟨x,q1,q2,q3,by omega,fun n=> ?_⟩;rw[Md,taa (by omega),taa (by omega),q5]
   congr 1;omega
theorem PE{e:PV}{s:Ob}{P:PV}{ps:List PV}(h:fg e s P ps)(Ba:Be s):Qp [e]=some (i64 (Na s.parts)):=by
 obtain⟨b1,H8,dad⟩:=Pm h;have:=dad.2 Ba
 subst this;have W7:=qJ h Ba;have E8:=h.Xz.1
 have heq:=h.eq
 subst heq;have i0:∀ H,ta H 1 (.pv (.lit 1 ((al s.parts).map i64))) 0=some (.pv (.rp [i64 (Na s.parts)] 0)):=fun H=>by
  have:(al s.parts).map i64=i64 (Na s.parts)::((al s.parts).map i64).tail:=by simp only[al,List.range_succ_eq_map,pab,Aac,List.tail_cons]
  rw[this];simp only[ta];rw[if_pos (by unfold Ia;simp)];rfl
 simp -implicitDefEqProofs only[Qp,SX,sevalprocAttr,-List.reduceReplicate,cu,E8,tg,H8,W7,i0,Wa]
def Uh:List (List (Int×Int))->Int->List Int
 | [],_=>[]
 |l::r,k=>(EW (k.tdiv (Na r)) l).getD 0::Uh r (k.tmod (Na r))
theorem mW{k p q:Int}(h0:0<=k)(hp:1<=p)(h1:k < p * q):0<=k.tdiv p/\k.tdiv p < q/\0<=k.tmod p/\k.tmod p < p/\k.tdiv p * p+k.tmod p=k:=by
 rw[Int.tdiv_eq_ediv_of_nonneg h0,Int.tmod_eq_emod_of_nonneg h0];refine⟨Int.ediv_nonneg h0 (by omega),Int.ediv_lt_of_lt_mul (by omega) (by rw[jae];exact h1),Int.emod_nonneg _ (by omega),Int.emod_lt_of_pos _ (by omega),?_⟩;rw[jae];exact Int.mul_ediv_add_emod k p
theorem cy:∀ (ls:List (List (Int×Int)))(k n:Int),(∀ l∈ls,Hd l)->0<=k->k < Na ls->Dh ls (Uh ls k) n=some (n+k)/\(Uh ls k).length=ls.length/\∀ x∈Uh ls k,0<=x/\x<=255
 | [],k,n,_,h0,h1=>by
   have:k=0:=by rw[Na] at h1;omega
   subst this;exact⟨by rw[Vr,Int.add_zero],rfl,by simp[Uh]⟩
 |l::r,k,n,hp,h0,h1=>by
  have hpr:=zf (ls:=r) fun x hx=>hp x (by simp[hx]);rw[Na] at h1;obtain⟨d1,d2,d3,d4,d5⟩:=mW h0 hpr h1;obtain⟨x,q1,q2,q3,_,q5⟩:=Bz (hp l (by simp)).2 d1 d2
  obtain⟨i1,i2,i3⟩:=cy r (k.tmod (Na r)) (n+k.tdiv (Na r) * Na r) (fun x hx=>hp x (by simp[hx])) d3 d4;rw[Uh,q1,aad,Dh,q5,if_pos rfl];simp only[Int.zero_add];rw[i1];refine⟨by congr 1;omega,by simp[i2],?_⟩;intro y hy;rcases bab.1 hy with rfl | hy
  ·exact⟨q2,q3⟩
  ·exact i3 y hy
def sx(l:List (Int×Int))(x:Nat):PV:= .int .u16 (if (Md (x:Int) 0 l).2 then (Md (x:Int) 0 l).1+1 else 0)
def Sq(l:List (Int×Int)):PV:= .lit 1 ((Nl l).map U5)
def KK(ls:List (List (Int×Int)))(c:Nat):PV:=
 if c % 258=0 then Sq (ls.getD (c / 258) []) else if c % 258=257 then i64 (Na (ls.drop (c / 258+1))) else sx (ls.getD (c / 258) []) (c % 258 - 1)
def tK(ls:List (List (Int×Int)))(i:Nat):PV:= .agg ((List.range 258).map fun k=>KK ls (i * 258+k))
def Mj(ls:List (List (Int×Int))):PV:= .rp [.lit 258 ((List.range ls.length).map (tK ls))] 0
def vK(ls:List (List (Int×Int)))(g:Nat->AV)(i:Nat):Prop:=
 (∃ tk,g (i * 258)= .uq tk false 1 ((Nl (ls.getD i [])).map U5))/\(∀ y:Nat,y < 256->g (i * 258+1+y)= .pv (sx (ls.getD i []) y))/\g (i * 258+257)= .pv (i64 (Na (ls.drop (i+1))))
def fL(g:Nat->AV)(i:Nat):Prop:=g (i * 258)= .pv .ga/\∀ y:Nat,y < 256->g (i * 258+1+y)= .pv (.int .u16 0)
theorem qS{l:List (Int×Int)}(h:Hd l):Nl l≠[]:=by
 intro e;have h1:=gC 0 h.2
 rw[e] at h1;have:=(Xg h).1
 simp at h1;omega
theorem sY{l:List (Int×Int)}(h:Hd l):(Nl l).length<=256:=by
 have h1:=gC 0 h.2
 have:=(Xg h).2
 omega
theorem eC{l:List (Int×Int)}(h:Hd l):∀ x∈Nl l,0<=x/\x<=255:=by
 intro x hx;obtain⟨k,hk,rfl⟩:=Eab hx;have:=Gu (n:=0) h.2 (caa hk)
 exact⟨this.2.1,this.2.2.1⟩
theorem dP{l:List (Int×Int)}(h:Hd l):(Nl l).Nodup:=by
 unfold List.Nodup
 rw[fad];intro i j hi hj hij e;have h1:=(Gu (n:=0) h.2 (caa hi)).1
 have h2:=(Gu (n:=0) h.2 (caa hj)).1
 rw[e,h2] at h1;injection h1 with h1 _
 omega
theorem JP{l:List (Int×Int)}(h:Hd l){k:Nat}{x:Int}(hk:(Nl l)[k]? =some x):sx l x.toNat= .int .u16 ((k:Nat)+1):=by
 obtain⟨h1,h2,_⟩:=Gu (n:=0) h.2 hk
 unfold sx;rw[vac h2,h1];simp
theorem LP{l:List (Int×Int)}(h:Hd l){y:Nat}(hy:(y:Int) ∉ Nl l):sx l y= .int .u16 0:=by
 unfold sx;rw[taa];intro hr;obtain⟨k,h1,_⟩:=fx h.2 hr
 exact hy (sab h1)
theorem JZ(z:List PV)(n:Nat):(Ml z n).length=n * z.length:=by
 induction n with
 |zero=>simp[Ml]
 |succ n ih=>rw[Ml,Aaa,paa,ih,Nat.add_mul];omega
theorem BS{z:List PV}:∀ {n i k:Nat}{v:PV},i < n->z[k]? =some v->(Ml z n)[i * z.length+k]? =some (.pv v)
 |n+1,0,k,v,_,hk=>by
  have:k < z.length:=getElem?_lt hk
  rw[Ml,Kae,eab,gaa (by simpa using this),Faa,hk];rfl
 |n+1,i+1,k,v,hi,hk=>by rw[Ml,Paa (by rw[paa,Nat.add_mul];omega),paa,Nat.add_mul,show i * z.length+1 * z.length+k - z.length=i * z.length+k by omega];exact BS (by omega) hk
theorem yK(c:List AV):c=cellsOf c.length (fun j=>c.getD j .undef):=by
 apply Vab;intro j
 by_cases hj:j < c.length
 ·rw[Ut _ hj,Caa,caa hj];rfl
 ·rw[Yaa (by omega),Yaa (by rw[Yg];omega)]
theorem PO{H:List ba}{d:Nat}{f:Nat->PV}:∀ {n:Nat}{g:Nat->AV},(∀ c,c < n->Ub H d (g c)=some (f c))->Ra (Ub H d) (cellsOf n g)=some ((List.range n).map f):=by
 have key:∀ (l:List Nat)(g:Nat->AV),(∀ c∈l,Ub H d (g c)=some (f c))->Ra (Ub H d) (l.map g)=some (l.map f):=by
  intro l g
  induction l with
  |nil=>intro _;rfl
  |cons a l ih=>intro h;rw[pab,Ra,h a (by simp),Daa,ih fun c hc=>h c (by simp[hc])];rfl
 intro n g h;exact key (List.range n) g fun c hc=>h c (Pac.1 hc)
theorem XP{f:Nat->PV}(a n:Nat):(List.range' a n).map f=(List.range n).map fun k=>f (a+k):=by
 rw[List.range'_eq_map_range,wad];rfl
theorem gE{f:Nat->PV}(sz:Nat):∀ (n a:Nat),chunk sz true n ((List.range' a (n * sz)).map f)=(List.range n).map fun i=> .agg ((List.range sz).map fun k=>f (a+(i * sz+k)))
 |0,a=>by simp[chunk]
 |n+1,a=>by
  have e:List.range' a ((n+1) * sz)=List.range' a sz++List.range' (a+sz) (n * sz):=by rw[Nat.add_mul,Nat.one_mul,Nat.add_comm,List.range'_append_1]
  have hl:((List.range' a sz).map f).length=sz:=by simp
  rw[e,qac,chunk,if_pos rfl,List.take_left' hl,List.drop_left' hl,gE sz n,List.range_succ_eq_map,pab,wad,XP]
  congr 1
  ·congr 1;apply pac;intro k _;congr 1;omega
  ·apply pac;intro i _
   simp only[Function.comp]
   congr 1;apply pac;intro k _;congr 1
   rw[vae];omega
theorem yo{e:Tr}{t:Nat}:∀ {l:List Nat},t∈l->(Hc e l).get t=e.get t
 |a::l,h=>by
  rw[Hc,Tr.aa]
  by_cases ht:t=a
  ·rw[if_pos ht,ht]
  ·rw[taa ht]
   rcases bab.1 h with h | h
   ·exact absurd h ht
   ·exact yo h
theorem M1{E0:Tr}{H0:List ba}{s:Ob}{P:PV}{ps:List PV}{sb oid:Nat}{g0:Nat->AV}(hp:xf P s.parts ps)(Ba:Be s)
 (h1:E0.get 1= .pv (.rp [P,i64 s.first] 0)) (h3:E0.get 3= .ptr sb 0) (h4:E0.get 4= .pv (i64 1)) (h5:E0.get 5= .pv (i64 ((s.parts.length:Int) - 1))) (hs:H0[sb]? =some (.box [.own oid s.parts.length]))
 (ho:H0[oid]? =some (.seq 258 true (cellsOf (s.parts.length * 258) g0) 0 false)) (hz:∀ j,j < s.parts.length->fL g0 j):
 qd (fun r=>∃ E H,r=(.exit 0,⟨E,H⟩)/\E.get 3= .ptr sb 0/\H[sb]? =some (.box [.own oid s.parts.length])/\∃ fl g,H[oid]? =some (.seq 258 true (cellsOf (s.parts.length * 258) g) fl false)/\∀ j,j < s.parts.length->vK s.parts g j)
  (oa (Da Gh 8) (.bp [1,2,3,4,5] Tl) ⟨E0,H0⟩):=by
 rw[yr];have h8:=Ba.hi
 have hpr:=Ba.prod.2
 refine wa (Gb (fun r t=>t.env.get 1= .pv (.rp [P,i64 s.first] 0)/\t.env.get 3= .ptr sb 0/\t.env.get 4= .pv (i64 (Na (s.parts.drop (s.parts.length - r))))/\t.env.get 5= .pv (i64 ((s.parts.length:Int) - 1 - r))/\t.H[sb]? =some (.box [.own oid s.parts.length])/\
  ∃ fl g,fl<=s.parts.length * 258/\t.H[oid]? =some (.seq 258 true (cellsOf (s.parts.length * 258) g) fl false)/\(∀ j,s.parts.length - r<=j->j < s.parts.length->vK s.parts g j)/\∀ j,j < s.parts.length - r->fL g j)
  s.parts.length (by unfold ua;omega) _ ?_ ?_ ?_) (fun r h=>h.2)
 ·refine⟨?_,?_,?_,?_,hs,0,g0,by omega,ho,fun j a b=>by omega,fun j hj=>hz j (by omega)⟩
  ·simp only[tidy];rw[yo (by simp),h1]
  ·simp only[tidy];rw[yo (by simp),h3]
  ·simp only[tidy];rw[yo (by simp),h4,wae,Hab];rfl
  ·simp only[tidy];rw[yo (by simp),h5];simp
 ·rintro r ⟨E,H⟩ hr ⟨g1,g3,g4,g5,gs,fl,g,hfl,go,hd,hz⟩
  obtain⟨i,hi⟩:∃ i,i=s.parts.length - 1 - r:=⟨_,rfl⟩
  have hil:i < s.parts.length:=by omega
  have J8:=Ba.parts s.parts[i] (saa hil)
  have hdr:s.parts.drop i=s.parts[i]::s.parts.drop (i+1):=Waa hil
  have hpd:Na (s.parts.drop i)=Na (s.parts.drop (i+1)) * ib 0 s.parts[i]:=by rw[hdr,Na]
  have hle:=gp Ba.parts i
  have j8:=zf (ls:=s.parts.drop i) fun x hx=>Ba.parts x (bac hx)
  have K7:=gC 0 J8.2
  rw[Int.zero_add] at K7;rw[show s.parts.length - r=i+1 by omega] at g4 hd hz;have Vak:=xT (e:=E) (H:=H) hp hil J8 g1 g3 g4 (by rw[g5];congr 2;omega) gs go (hz i (by omega)).1 (by rw[<- K7,<-hpd];exact Aa (by omega)) (dP J8) (sY J8) (eC J8) (qS J8) hfl (by omega)
  rw[ma,RB];refine wa Vak ?_;rintro⟨ex,E',H'⟩ ⟨rfl,q1,q3,q4,q5,qs,o8,g',qfl,qo,qB,qg,qw⟩;have hgd:s.parts.getD i []=s.parts[i]:=by rw[Caa,caa hil];rfl
  have baa:∀ j k,j≠i->k < 258->g' (j * 258+k)=g (j * 258+k):=by intro j k hj hk;rw[qg _ (by omega) (fun x hx=>by have:=eC J8 x hx;omega),gw _ _ (by omega)]
  refine⟨?_,?_,?_,?_,qs,o8,g',qfl,qo,?_,?_⟩
  ·simp only[tidy];rw[yo (by simp)];exact q1
  ·simp only[tidy];rw[yo (by simp)];exact q3
  ·simp only[tidy];rw[yo (by simp),q4,show s.parts.length - (r+1)=i by omega,hpd,K7]
  ·simp only[tidy];rw[yo (by simp),q5];congr 2;omega
  ·intro j hj1 hj2
   by_cases Q9:j=i
   ·subst Q9
    refine⟨?_,fun y hy=> ?_,?_⟩
    ·rcases qB with⟨h,_⟩ | ⟨tk,_,h,_⟩
     ·simp at h;exact absurd h (qS J8)
     ·exact⟨tk,by rw[hgd];exact h⟩
    ·rw[hgd]
     by_cases hm:(y:Int)∈Nl s.parts[j]
     ·obtain⟨k,hk⟩:=Dac.1 hm
      have:=qw k y hk;rw[Eaa] at this;rw[this,<-JP J8 hk,Eaa]
     ·rw[LP J8 hm,qg _ (by omega) (fun x hx=>by
       intro e;have:=eC J8 x hx;have:x=(y:Int):=by omega
       exact hm (this ▸ hx)),gw _ _ (by omega)]
      exact (hz j (by omega)).2 y hy
    ·rw[qg _ (by omega) (fun x hx=>by have:=eC J8 x hx;omega),dv]
   ·obtain⟨⟨tk,a1⟩,a2,a3⟩:=hd j (by omega) hj2
    refine⟨⟨tk,?_⟩,fun y hy=> ?_,?_⟩
    ·have:=baa j 0 Q9 (by omega);rw[tae] at this;rw[this];exact a1
    ·have:=baa j (1+y) Q9 (by omega);rw[<- Nat.add_assoc] at this;rw[this];exact a2 y hy
    ·rw[baa j 257 Q9 (by omega)];exact a3
  ·intro j hj
   have Q9:j≠i:=by omega
   obtain⟨a1,a2⟩:=hz j (by omega);refine⟨?_,fun y hy=> ?_⟩
   ·have:=baa j 0 Q9 (by omega);rw[tae] at this;rw[this];exact a1
   ·have:=baa j (1+y) Q9 (by omega);rw[<- Nat.add_assoc] at this;rw[this];exact a2 y hy
 ·rintro⟨E,H⟩ ⟨g1,g3,g4,g5,gs,fl,g,hfl,go,hd,hz⟩
  have e1:decide ((s.parts.length:Int) - 1 - s.parts.length>=0)=false:=Ga (by omega);generalize hQ:(fun r:Ex×St=>r.1.stop=true/\_)=Q;simp -implicitDefEqProofs only[SX,sevalprocAttr,-List.reduceReplicate,Tl,g5,e1];subst hQ;exact⟨rfl,_,_,rfl,by simp[Tr.aa,g3],gs,fl,g,go,fun j hj=>hd j (by omega) hj⟩
theorem lI{e:PV}{s:Ob}{P:PV}{ps:List PV}(h:fg e s P ps)(Ba:Be s):Nt [e]=some (Mj s.parts):=by
 obtain⟨E8,hP2⟩:=h.Xz
 have heq:=h.eq
 subst heq;have hP:=h.parts
 have lP:=hP.Tb
 have h8:=Ba.hi
 generalize hzr:([PV.ga]++List.replicate 256 (PV.int .u16 0)++[PV.int .i64 0])=zr;have GX:zr.length=258:=by rw[<- hzr];simp[-List.reduceReplicate]
 have hzg:∀ i k v,i < s.parts.length->zr[k]? =some v->(Ml zr s.parts.length).getD (i * 258+k) .undef= .pv v:=by intro i k v hi hk;rw[Caa,<-GX,BS hi hk];rfl
 have hcz:∀ j,j < s.parts.length->fL (fun c=>(Ml zr s.parts.length).getD c .undef) j:=by
  intro j hj;refine⟨by have:=hzg j 0 .ga hj (by rw[<- hzr];rfl);rw[tae] at this;exact this,fun y hy=> ?_⟩;show (Ml zr s.parts.length).getD (j * 258+1+y) .undef=_
  rw[Nat.add_assoc];refine hzg j (1+y) _ hj ?_;rw[<- hzr,gaa (by simp[-List.reduceReplicate];omega),Paa (by simp[-List.reduceReplicate]),List.getElem?_replicate];rw[if_pos (by simp[-List.reduceReplicate];omega)]
 have hcell:Ml zr s.parts.length=cellsOf (s.parts.length * 258) (fun c=>(Ml zr s.parts.length).getD c .undef):=by have:=yK (Ml zr s.parts.length);rw[JZ,GX] at this;exact this
 generalize (fun c=>(Ml zr s.parts.length).getD c AV.undef)=g0 at *;have r0:∀ H (x y:PV),pa H false 1 (.pv (.rp [x,y] 0))=some (.pv x):=fun H x y=>rfl;have q0:∀ H (x y:PV),place H 0 (.pv (.rp [x,y] 0))=some (.pv (.rp [x,y] 0)):=fun H x y=>rfl;have e2:(0<=(s.parts.length:Int))=True:=by simp
 have e3:((s.parts.length:Int)<=(s.parts.length:Int))=True:=by simp
 have e4:eb s.parts.length 544:=by unfold eb;omega
 have t1:IntKind.i64.wrap ((s.parts.length:Int) - 1)=(s.parts.length:Int) - 1:=Aa (by omega)
 have m1:Yr ([PV.ga].map .pv) [(0,1,AV.own 0 s.parts.length)]=some [AV.own 0 s.parts.length]:=rfl;have m2:gv [AV.own 0 s.parts.length]= .agg [AV.own 0 s.parts.length]:=rfl
 have m3:(([AV.own 0 s.parts.length]:List AV).length=1/\([AV.own 0 s.parts.length]:List AV).all AV.one=true)=True:=by simp[AV.one]
 have hlp:=fun (E:Tr)(a1:E.get 1= .pv (.rp [P,i64 s.first] 0))(a3:E.get 3= .ptr 1 0)(a4:E.get 4= .pv (i64 1))(a5:E.get 5= .pv (i64 ((s.parts.length:Int) - 1)))=>
  M1 (E0:=E) (H0:=[.seq 258 true (cellsOf (s.parts.length * 258) g0) 0 false,.box [.own 0 s.parts.length]]) hP Ba a1 a3 a4 a5 (sb:=1) (oid:=0) rfl rfl hcz
 have p1:∀ A B,place [A,.box B] 0 (.ptr 1 0)=some (.ptr 1 0):=fun A B=>rfl;have l1:∀ A b,pa [A,.box [b]] false 1 (.ptr 1 0)=some b:=fun A b=>rfl;have hw:Ui 258 s.parts.length 0 (cellsOf (s.parts.length * 258) g0).length:=⟨Iac _,by rw[Yg];exact waa _⟩
 have ln:Tb [.seq 258 true (cellsOf (s.parts.length * 258) g0) 0 false,.box [.own 0 s.parts.length]] 0 (.own 0 s.parts.length)=some s.parts.length:=by simp only[Tb,jab,if_pos hw]
 have Q7:∀ (H:List ba)(fl:Nat)(g:Nat->AV),H[1]? =some (.box [.own 0 s.parts.length])->H[0]? =some (.seq 258 true (cellsOf (s.parts.length * 258) g) fl false)->(∀ j,j < s.parts.length->vK s.parts g j)->Ub H 6 (.ptr 1 0)=some (Mj s.parts):=by
  intro H fl g h1 h0 hd;have hm:Ra (Ub H 4) (cellsOf (s.parts.length * 258) g)=some ((List.range (s.parts.length * 258)).map (KK s.parts)):=by
   refine PO fun c hc=> ?_;obtain⟨⟨tk,a1⟩,a2,a3⟩:=hd (c / 258) (by omega);unfold KK
   by_cases k0:c % 258=0
   ·rw[if_pos k0,show c=c / 258 * 258 by omega,a1,show c / 258 * 258 / 258=c / 258 by omega];rfl
   ·rw[taa k0]
    by_cases k1:c % 258=257
    ·rw[if_pos k1]
     have e:g c=g (c / 258 * 258+257):=by congr 1;omega
     rw[e,a3];rfl
    ·rw[taa k1]
     have e:g c=g (c / 258 * 258+1+(c % 258 - 1)):=by congr 1;omega
     rw[e,a2 _ (by omega)];rfl
  have hc2:s.parts.length * 258=(cellsOf (s.parts.length * 258) g).length/\(true||(258:Nat)==1)=true:=⟨(Yg _ _).symm,rfl⟩
  have h5:Ub H 5 (.own 0 s.parts.length)=some (.lit 258 ((List.range s.parts.length).map (tK s.parts))):=by simp only[Ub,h0,if_pos hc2,Baa,if_false,hm,Kaa,List.range_eq_range' (n:=s.parts.length * 258),gE,eab];rfl
  show (match H[1]? with | some (.box cells)=>(Ra (Ub H 5) cells).map fun ps=>PV.rp ps 0 | _=>none)=_;rw[h1];simp only[Ra,h5,Daa,Kaa];rfl
 have Wak:PV.ga::(List.replicate 256 (PV.int .u16 0)++[PV.int .i64 0])=zr:=hzr
 have m4:fa [AV.pv PV.ga] 0 [AV.own 0 s.parts.length]=[AV.own 0 s.parts.length]:=rfl;have m5:Tc [AV.own 0 s.parts.length]=none:=rfl;have m6:[AV.own 0 s.parts.length].all AV.one=true:=rfl
 simp -implicitDefEqProofs only[Nt,SX,sevalprocAttr,-List.reduceReplicate,vt,E8,r0,q0,lP,e2,e3,Laa e4,Wak,hcell,m4,m5,m6,p1,l1,ln,t1];generalize U7:(Tr.set _ 5 _:Tr)=E;have a1:E.get 1= .pv (.rp [P,i64 s.first] 0):=by rw[<- U7];simp[Tr.aa]
 have a3:E.get 3= .ptr 1 0:=by rw[<- U7];simp[Tr.aa]
 have a4:E.get 4= .pv (i64 1):=by rw[<- U7];simp[Tr.aa]
 have a5:E.get 5= .pv (i64 ((s.parts.length:Int) - 1)):=by rw[<- U7];simp[Tr.aa]
 obtain⟨r,h1,E',H',rfl,q3,q1,fl,g,q4,q5⟩:=wc (hlp E a1 a3 a4 a5);rw[h1];have h9:=Q7 H' fl g q1 q4 q5;simp -implicitDefEqProofs only[SX,sevalprocAttr,-List.reduceReplicate,q3,h9]
section
variable {call:Sa}{o0 o1 o4 o5:ba}{c0 c1 c3 c4 c5:AV}
 (hg:∀ nl es,Vd (Xx o0 o1 o4 o5 c0 c1 c3 c4 c5 nl es))
include hg
theorem OY{E:Tr}{V:PV}{l:List (List de)}(hV:Zh 1 V (l.map Ee))(hl:l.length<=64)(hle:∀ e∈l,e.length<=256)(Ba:∀ e∈l,sj e)
 (h8:E.get 8= .ptr 2 0) (h101:E.get 101= .pv V) (h102:E.get 102= .pv (i64 l.length)) (h103:E.get 103= .pv (i64 0)):
 qd (fun r=>r.1.stop=true/\∃ E' nl,r=(.exit 2,⟨E',Xx o0 o1 o4 o5 c0 c1 c3 c4 c5 nl (l.map Zo)⟩)/\E'.get 8= .ptr 2 0/\(nl=true->l=[]))
  (oa call (.loop [8,101,102,103] Qi) ⟨E,Xx o0 o1 o4 o5 c0 c1 c3 c4 c5 true []⟩):=by
 have hgl:∀ nl es,(Xx o0 o1 o4 o5 c0 c1 c3 c4 c5 nl es).length=6:=fun _ _=>rfl
 have hgd:∀ nl es,∀ o∈Xx o0 o1 o4 o5 c0 c1 c3 c4 c5 nl es,qa 6 o=some o:=fun nl es o ho=>hg nl es 6 (by rw[hgl];exact waa _) o ho;have C7:Fit 6 [8,101,102] E:= .cons h8 (fw (by omega)) (.cons h101 Qa (.cons h102 Qa (.nil _ _)))
 refine Dr (fun i t=>Xe [8,101,102] E t.env/\t.env.get 103= .pv (i64 i)/\∃ nl,t.H=Xx o0 o1 o4 o5 c0 c1 c3 c4 c5 nl ((l.take i).map Zo)/\(nl=true->i=0)) l.length (by unfold ua;omega) ?_ ?_ ?_
 ·rw[hgl]
  exact Rh.all rfl (hgd _ _) (Fit.sub (.cons h103 Qa C7) rfl) fun E' hE=>⟨Xe.sub hE rfl,by rw[hE 103 (by simp),h103];rfl,true,rfl,fun _=>rfl⟩
 ·rintro i ⟨E1,H1⟩ hi ⟨k1,k2,nl,k3,k4⟩
  simp only at k1 k2 k3;subst k3;refine wa (DW (call:=call) hg hV hl hle Ba hi (by simp;omega) ((k1 8 (by simp)).trans h8) ((k1 101 (by simp)).trans h101) ((k1 102 (by simp)).trans h102) k2) ?_;rintro r ⟨E2,rfl,k5,k6⟩;rw[Yn,hgl];have hnx:(l.take (i+1)).map Zo=(l.take i).map Zo++[Zo l[i]]:=by rw[List.take_succ_eq_append_getElem hi,qac];rfl
  exact Rh.front (hgl _ _).symm (hgd _ _) (Fit.sub (.cons k6 Qa (C7.ie (k1.trans k5))) rfl) fun E' hE=>⟨(k1.trans k5).trans (Xe.sub hE rfl),by rw[hE 103 (by simp),k6],false,by rw[hnx],fun h=>by cases h⟩
 ·rintro⟨E1,H1⟩ ⟨k1,k2,nl,k3,k4⟩
  simp only at k1 k2 k3;subst k3;have Zad:=(k1 102 (by simp)).trans h102
  have e1:decide ((l.length:Int) < (l.length:Int))=false:=Ga (by omega);rw[Fab];generalize hQ:(fun r:Ex×St=>r.1.stop=true/\_)=Q;simp -implicitDefEqProofs only[SX,sevalprocAttr,-List.reduceReplicate,Qi,k2,Zad,e1];subst hQ;exact⟨rfl,_,nl,rfl,by rw[Tr.aa,taa (by decide)];exact (k1 8 (by simp)).trans h8,fun h=>yaa (k4 h)⟩
end
def Qx(s:Ob)(i:Nat):List Int:=[s.first,s.first+Na s.parts - 1,(i:Int)]
def yj(ss:List Ob)(n:Nat):List (List Int):=(List.range n).map fun j=>Qx (ss.getD j ⟨[],0⟩) j
theorem AP(ss:List Ob){n:Nat}(h:n < ss.length):yj ss (n+1)=yj ss n++[Qx ss[n] n]:=by
 unfold yj;rw[vad,qac,pab,Rad,Caa,caa h];rfl
theorem Kr(ss:List Ob)(n:Nat):(yj ss n).length=n:=by simp[yj]
theorem iz{ss:List Ob}{n:Nat}{r:List Int}(h:r∈yj ss n):r.length=3:=by
 unfold yj at h;obtain⟨j,_,rfl⟩:=oab.1 h
 rfl
theorem lz:∀ {D:List (List Int)},(∀ r∈D,r.length=3)->D.flatten.length=D.length * 3
 | [],_=>rfl
 |r::D,h=>by rw[aac,Aaa,h r (by simp),lz fun x hx=>h x (by simp[hx]),Raa];omega
def zj(ss:List Ob):Nat:=ss.foldl (fun m s=>if s.parts.length > m then s.parts.length else m) 0
def Vz(o0 o1 o3:ba)(c0 c1 c2:AV)(nl:Bool)(ds:List PV)(D:List (List Int))(fl:Nat)(nr:Bool)(m:Int):List ba:=
 [o0,o1,.box [c0,c1,c2,.uq 4 nl 1 ds,.own 5 D.length,.pv (i64 m)],o3,.tok 1 ds.length nl,.seq 3 true (jg D.flatten) fl nr]
section
variable {call:Sa}{o0 o1 o3:ba}{c0 c1 c2:AV}
theorem iX{E:Tr}{S:PV}{ss:List Ob}{es:List PV}{i:Nat}{nl nr:Bool}{fl:Nat}{ds:List PV}{D:List (List Int)}{m:Nat}(hS:qb S ss es)(Ba:Xb ss)(hi:i < ss.length)(hds:ds.length=i)(hD:D.length=i)(hDr:∀ r∈D,r.length=3)(hm:m<=8)
 (h4:E.get 4= .ptr 0 0) (h8:E.get 8= .ptr 2 0) (h46:E.get 46= .pv S) (h47:E.get 47= .pv (i64 ss.length)) (h48:E.get 48= .pv (i64 i)):
 qd (fun r=>∃ E' T,r=(.norm,⟨E',Vz o0 o1 o3 c0 c1 c2 false (ds++[Mj ss[i].parts]) (D++[Qx ss[i] i]) fl false (if ss[i].parts.length > m then ss[i].parts.length else m:Nat)++T⟩)/\Xe [4,8,46,47] E E'/\E'.get 48= .pv (i64 (i+1:Nat)))
  (oa call Vi ⟨E,Vz o0 o1 o3 c0 c1 c2 nl ds D fl nr m⟩):=by
 obtain⟨P,ps,hsh,a1⟩:=hS.Pd hi
 have hs:=Ba.ft _ (saa hi)
 have h32:=Ba.len
 have hcn:=PE hsh hs;have hdg:=lI hsh hs;have J8:=zf hs.parts
 have hpr:=hs.prod.2
 have hlt:=hs.zi
 have R9:=hs.last
 have hf0:=hs.f0
 have hf1:=hs.f1
 have h88:=hs.hi
 have lP:=hsh.parts.Tb
 have E8:=hsh.Xz.1
 have hDl:=lz hDr;generalize ss[i]=s at *;have e1:decide ((i:Int) < (ss.length:Int))=true:=Ea (by omega);have t1:IntKind.i64.wrap ((i:Int)+1)=((i+1:Nat):Int):=sg (by omega)
 have t2:IntKind.i64.wrap (s.first+Na s.parts)=s.first+Na s.parts:=Aa (by omega)
 have t3:IntKind.i64.wrap (s.first+Na s.parts - 1)=s.first+Na s.parts - 1:=Aa (by omega)
 have r2:∀ H (x y:PV),pa H true 2 (.pv (.rp [x,y] 0))=some (.pv (.agg [x,y])):=fun H x y=>rfl;obtain⟨b10,Vaa⟩:∃ b,b=ba.box [.pv P,.pv (i64 s.first)]:=⟨_,rfl⟩
 have hH0:(Vz o0 o1 o3 c0 c1 c2 nl ds D fl nr m).length=6:=rfl
 have s1:Ha (Vz o0 o1 o3 c0 c1 c2 nl ds D fl nr m++[.box [.pv .ga,.pv (i64 0)]]) 2 (.ptr 6 0) (.pv (.agg [P,i64 s.first]))=some (Vz o0 o1 o3 c0 c1 c2 nl ds D fl nr m++[b10]):=by rw[Vaa];exact Ep (.pv .ga) (.pv (i64 0)) (.pv P) (.pv (i64 s.first)) E8 rfl (Vz o0 o1 o3 c0 c1 c2 nl ds D fl nr m) _ rfl
 have p1:∀ d,place (Vz o0 o1 o3 c0 c1 c2 nl ds D fl nr m++[b10]) d (.ptr 2 0)=some (.ptr 2 (0+d)):=fun d=>Wg rfl d 0;have q1:∀ d,place (Vz o0 o1 o3 c0 c1 c2 nl ds D fl nr m++[b10]) d (.ptr 6 0)=some (.ptr 6 (0+d)):=fun d=>Wg (by rw[Vaa];rfl) d 0;have l1:pa (Vz o0 o1 o3 c0 c1 c2 nl ds D fl nr m++[b10]) false 1 (.ptr 2 4)=some (.own 5 D.length):=rfl;have l2:pa (Vz o0 o1 o3 c0 c1 c2 nl ds D fl nr m++[b10]) false 1 (.ptr 6 1)=some (.pv (i64 s.first)):=by rw[Vaa];rfl
 have l3:pa (Vz o0 o1 o3 c0 c1 c2 nl ds D fl nr m++[b10]) true 2 (.ptr 6 0)=some (.pv (.agg [P,i64 s.first])):=by rw[Vaa];rfl
 obtain⟨H2,Z9⟩:∃ H,H=[o0,o1,.box [c0,c1,c2,.uq 4 nl 1 ds,.own 5 D.length,.pv (i64 m)],o3,.tok 1 ds.length nl,.seq 3 true (jg (D++[Qx s i]).flatten) fl false,b10]:=⟨_,rfl⟩;have ap1:Cb (Vz o0 o1 o3 c0 c1 c2 nl ds D fl nr m++[b10]) true .own 3 true 24 (.own 5 D.length) (.pv (.lit 3 [.agg [i64 s.first,i64 (s.first+Na s.parts - 1),i64 i]]))=some (.own 5 (D.length+1),H2):=by
  rw[Z9];have hc:jg D.flatten++[AV.pv (i64 s.first),.pv (i64 (s.first+Na s.parts - 1)),.pv (i64 i)]=jg (D++[Qx s i]).flatten:=by rw[List.flatten_append];simp[jg,Qx]
  simp only[Cb,Vz,fab,cab,mab,jab,if_true,pk,Kf,Kaa,Daa,flat,PV.cells,Kab,pab,Rad,Raa,Dab];rw[if_pos ⟨trivial,by rw[paa];omega,by unfold eb;omega,rfl⟩,hc];simp
 have p2:∀ d,place H2 d (.ptr 2 0)=some (.ptr 2 (0+d)):=fun d=>Wg (by rw[Z9];rfl) d 0;obtain⟨H3,hH3⟩:∃ H,H=[o0,o1,.box [c0,c1,c2,.uq 4 nl 1 ds,.own 5 (D.length+1),.pv (i64 m)],o3,.tok 1 ds.length nl,.seq 3 true (jg (D++[Qx s i]).flatten) fl false,b10]:=⟨_,rfl⟩;have s2:Ha H2 1 (.ptr 2 4) (.own 5 (D.length+1))=some H3:=by rw[Z9,hH3];rfl
 have p3:∀ d,place H3 d (.ptr 2 0)=some (.ptr 2 (0+d)):=fun d=>Wg (by rw[hH3];rfl) d 0;have q3:∀ d,place H3 d (.ptr 6 0)=some (.ptr 6 (0+d)):=fun d=>Wg (by rw[hH3,Vaa];rfl) d 0;have l4:pa H3 false 1 (.ptr 2 5)=some (.pv (i64 m)):=by rw[hH3];rfl
 have l5:pa H3 false 1 (.ptr 6 0)=some (.pv P):=by rw[hH3,Vaa];rfl
 obtain⟨mm,hmm⟩:∃ x:Nat,x=if s.parts.length > m then s.parts.length else m:=⟨_,rfl⟩
 have hmx:(if (s.parts.length:Int) > (m:Int) then (s.parts.length:Int) else (m:Int))=(mm:Int):=by rw[hmm];split <;> split <;> omega
 obtain⟨H4,hH4⟩:∃ H,H=[o0,o1,.box [c0,c1,c2,.uq 4 nl 1 ds,.own 5 (D.length+1),.pv (i64 mm)],o3,.tok 1 ds.length nl,.seq 3 true (jg (D++[Qx s i]).flatten) fl false,b10]:=⟨_,rfl⟩;have s3:Ha H3 1 (.ptr 2 5) (.pv (.int .i64 mm))=some H4:=by rw[hH3,hH4];rfl
 have p4:∀ d,place H4 d (.ptr 2 0)=some (.ptr 2 (0+d)):=fun d=>Wg (by rw[hH4];rfl) d 0;have l6:pa H4 false 1 (.ptr 2 3)=some (.uq 4 nl 1 ds):=by rw[hH4];rfl
 have l7:pa H4 true 2 (.ptr 6 0)=some (.pv (.agg [P,i64 s.first])):=by rw[hH4,Vaa];rfl
 obtain⟨H5,hH5⟩:∃ H,H=[o0,o1,.box [c0,c1,c2,.uq 4 nl 1 ds,.own 5 (D.length+1),.pv (i64 mm)],o3,.tok 1 (ds.length+1) false,.seq 3 true (jg (D++[Qx s i]).flatten) fl false,b10]:=⟨_,rfl⟩;have ap2:Cb H4 false .uq 1 false 8 (.uq 4 nl 1 ds) (.pv (.lit 1 [Mj s.parts]))=some (.uq 4 false 1 (ds++[Mj s.parts]),H5):=by rw[hH5];rw[Ih (A:=H4) (id:=4) (n:=ds.length) (nl:=nl) (by rw[hH4];rfl) rfl (by unfold eb;omega) (Mj s.parts)];rw[hH4];rfl
 have p5:∀ d,place H5 d (.ptr 2 0)=some (.ptr 2 (0+d)):=fun d=>Wg (by rw[hH5];rfl) d 0;have s5:Ha H5 1 (.ptr 2 3) (.uq 4 false 1 (ds++[Mj s.parts]))=some (Vz o0 o1 o3 c0 c1 c2 false (ds++[Mj s.parts]) (D++[Qx s i]) fl false mm++[b10]):=by
  rw[hH5];have e1:(ds++[Mj s.parts]).length=ds.length+1:=by simp
  have e2:(D++[Qx s i]).length=D.length+1:=by simp
  unfold Vz;rw[e1,e2];rfl
 rw[<- hmm];have m1:Yr (List.map AV.pv [PV.int .i64 0,.int .i64 0,.int .i64 0]) [(0,1,.pv (i64 s.first)),(1,1,.pv (i64 (s.first+Na s.parts - 1))),(2,1,.pv (i64 i))]=some [.pv (i64 s.first),.pv (i64 (s.first+Na s.parts - 1)),.pv (i64 i)]:=rfl;have hdc:(AV.pv (Mj s.parts)).one=true:=rfl
 have hdp:(Mj s.parts).cells=[Mj s.parts]:=rfl
 have Q7:Vz o0 o1 o3 c0 c1 c2 false (ds++[Mj s.parts]) (D++[Qx s i]) fl false mm++[b10]=Vz o0 o1 o3 c0 c1 c2 false (ds++[Mj s.parts]) (D++[Qx s i]) fl false mm++[b10]:=rfl;clear Z9 hH3 hH4 hH5 Vaa;generalize hG1:Vz o0 o1 o3 c0 c1 c2 nl ds D fl nr m++[b10]=G1 at *;generalize hG0:Vz o0 o1 o3 c0 c1 c2 nl ds D fl nr m=G0 at *;generalize Mj s.parts=dd at *
 generalize hQ:(fun r:Ex×St=>∃ E' T,r=_/\_)=Q;simp -implicitDefEqProofs only[SP,WP,fa,sevalprocAttr,-List.reduceReplicate,Vi,h8,h46,h47,h48,e1,a1,r2,hH0,s1,p1,q1,l1,l2,l3,hcn,t1,t2,t3,ap1,p2,s2,p3,q3,l4,l5,lP,hmx,cp,Ye,s3,p4,l6,l7,hdg,hdc,hdp,ap2,p5,s5];subst hQ;refine⟨_,[b10],rfl,?_,by rw[Tr.aa,if_pos rfl]⟩
 repeat refine Xe.set ?_ rfl
 exact Xe.refl _ _
theorem YP{ss:List Ob}{i:Nat}(hi:i < ss.length):zj (ss.take (i+1))=if ss[i].parts.length > zj (ss.take i) then ss[i].parts.length else zj (ss.take i):=by
 unfold zj;rw[List.take_succ_eq_append_getElem hi,Kad];rfl
theorem UX{ss:List Ob}(h:∀ s∈ss,s.parts.length<=8):zj ss<=8:=by
 have key:∀ (ss:List Ob)(m:Nat),m<=8->(∀ s∈ss,s.parts.length<=8)->ss.foldl (fun m s=>if s.parts.length > m then s.parts.length else m) m<=8:=by
  intro ss
  induction ss with
  |nil=>intro m h _;exact h
  |cons s ss ih=>
   intro m hm h;rw[Aad];refine ih _ ?_ fun x hx=>h x (by simp[hx]);have:=h s (by simp)
   split <;> omega
 exact key ss 0 (by omega) h
theorem O0(hg:∀ nl ds D fl nr m,Vd (Vz o0 o1 o3 c0 c1 c2 nl ds D fl nr m)){E:Tr}{S:PV}{ss:List Ob}{es:List PV}(hS:qb S ss es)(Ba:Xb ss)
 (h4:E.get 4= .ptr 0 0) (h8:E.get 8= .ptr 2 0) (h46:E.get 46= .pv S) (h47:E.get 47= .pv (i64 ss.length)) (h48:E.get 48= .pv (i64 0)):
 qd (fun r=>r.1.stop=true/\∃ E' nl nr,r=(.exit 0,⟨E',Vz o0 o1 o3 c0 c1 c2 nl (ss.map fun s=>Mj s.parts) (yj ss ss.length) 0 nr (zj ss)⟩)/\E'.get 4= .ptr 0 0/\E'.get 8= .ptr 2 0/\(nl=true->ss=[])/\(nr=true->ss=[]))
  (oa call (.loop [4,8,46,47,48] Vi) ⟨E,Vz o0 o1 o3 c0 c1 c2 true [] [] 0 true 0⟩):=by
 have hgl:∀ nl ds D fl nr m,(Vz o0 o1 o3 c0 c1 c2 nl ds D fl nr m).length=6:=fun _ _ _ _ _ _=>rfl
 have hgd:∀ nl ds D fl nr m,∀ o∈Vz o0 o1 o3 c0 c1 c2 nl ds D fl nr m,qa 6 o=some o:=fun nl ds D fl nr m o ho=>hg nl ds D fl nr m 6 (by rw[hgl];exact waa _) o ho;have C7:Fit 6 [4,8,46,47] E:= .cons h4 (fw (by omega)) (.cons h8 (fw (by omega)) (.cons h46 Qa (.cons h47 Qa (.nil _ _))))
 have h32:=Ba.len
 refine Dr (fun i t=>Xe [4,8,46,47] E t.env/\t.env.get 48= .pv (i64 i)/\∃ nl nr,t.H=Vz o0 o1 o3 c0 c1 c2 nl ((ss.take i).map fun s=>Mj s.parts) (yj ss i) 0 nr (zj (ss.take i))/\(nl=true->i=0)/\(nr=true->i=0)) ss.length (by unfold ua;omega) ?_ ?_ ?_
 ·rw[hgl]
  exact Rh.all rfl (hgd _ _ _ _ _ _) (Fit.sub (.cons h48 Qa C7) rfl) fun E' hE=>⟨Xe.sub hE rfl,by rw[hE 48 (by simp),h48];rfl,true,true,rfl,fun _=>rfl,fun _=>rfl⟩
 ·rintro i ⟨E1,H1⟩ hi ⟨k1,k2,nl,nr,k3,k4,k5⟩
  simp only at k1 k2 k3;subst k3;refine wa (iX (call:=call) hS Ba hi (by simp;omega) (Kr _ _) (fun r hr=>iz hr) (UX fun s hs=>(Ba.ft s (xac hs)).hi) ((k1 4 (by simp)).trans h4) ((k1 8 (by simp)).trans h8) ((k1 46 (by simp)).trans h46) ((k1 47 (by simp)).trans h47) k2) ?_;rintro r ⟨E2,T,rfl,k6,k7⟩;rw[Yn,hgl,<-AP ss hi,<-YP hi];have hnx:(ss.take (i+1)).map (fun s=>Mj s.parts)=(ss.take i).map (fun s=>Mj s.parts)++[Mj ss[i].parts]:=by rw[List.take_succ_eq_append_getElem hi,qac];rfl
  exact Rh.front (hgl _ _ _ _ _ _).symm (hgd _ _ _ _ _ _) (Fit.sub (.cons k7 Qa (C7.ie (k1.trans k6))) rfl) fun E' hE=>⟨(k1.trans k6).trans (Xe.sub hE rfl),by rw[hE 48 (by simp),k7],false,false,by rw[hnx],fun h=>(by cases h),fun h=>(by cases h)⟩
 ·rintro⟨E1,H1⟩ ⟨k1,k2,nl,nr,k3,k4,k5⟩
  simp only at k1 k2 k3;subst k3;have g47:=(k1 47 (by simp)).trans h47
  have e1:decide ((ss.length:Int) < (ss.length:Int))=false:=Ga (by omega);rw[Fab];generalize hQ:(fun r:Ex×St=>r.1.stop=true/\_)=Q;simp -implicitDefEqProofs only[SX,sevalprocAttr,-List.reduceReplicate,Vi,k2,g47,e1];subst hQ;exact⟨rfl,_,nl,nr,rfl,by rw[Tr.aa,taa (by decide)];exact (k1 4 (by simp)).trans h4,by rw[Tr.aa,taa (by decide)];exact (k1 8 (by simp)).trans h8,fun h=>yaa (k4 h),fun h=>yaa (k5 h)⟩
end
def Gm(ss:List Ob):Prop:=∀ i j,(hi:i < ss.length)->(hj:j < ss.length)->i < j->ss[i].parts.length=ss[j].parts.length->vf ss[i] ss[j]=false
theorem lM(call:Sa){S:PV}{ss:List Ob}{es:List PV}(hS:qb S ss es)(i j:Nat)(H:List ba)(hi:i < ss.length)(hj:j < ss.length)(hH:H[0]? =some (.box [.pv S])):
 ef call nh [.pv (i64 i),.pv (i64 j),.ptr 0 0] H=some (.pv (.bool (decide (i < j/\ss[i].parts.length=ss[j].parts.length))),H):=by
 obtain⟨P,ps,hPs,a1⟩:=hS.Pd hi
 obtain⟨Q,qs,hQs,a2⟩:=hS.Pd hj
 have lP:=hPs.parts.Tb
 have lQ:=hQs.parts.Tb
 have p0:place H 0 (.ptr 0 0)=some (.ptr 0 0):=by simp[place,hH]
 have l0:pa H false 1 (.ptr 0 0)=some (.pv S):=by simp[pa,hH,Lh]
 have r0:∀ H (x y:PV),pa H false 1 (.pv (.rp [x,y] 0))=some (.pv x):=fun H x y=>rfl;have q0:∀ H (x y:PV),place H 0 (.pv (.rp [x,y] 0))=some (.pv (.rp [x,y] 0)):=fun H x y=>rfl
 by_cases hlt:i < j
 ·have e0:decide ((i:Int) < (j:Int))=true:=decide_eq_true (by omega)
  have e:((ss[i].parts.length:Int)==(ss[j].parts.length:Int))=decide (i < j/\ss[i].parts.length=ss[j].parts.length):=by rw[fae];simp only[beq_iff_eq,decide_eq_true_eq];omega
  generalize decide (i < j/\ss[i].parts.length=ss[j].parts.length)=z at e ⊢;generalize ss[i]=p at *;generalize ss[j]=q at *
  by_cases hij:P=Q
  ·subst hij
   have:p.parts.length=q.parts.length:=by have h1:=lP [];have h2:=lQ [];rw[h1] at h2;exact Bad h2
   rw[this] at lP e;obtain rfl:z=true:=by rw[<- e];simp
   simp -implicitDefEqProofs only[SP,WP,fa,sevalprocAttr,nh,p0,l0,a1,a2,r0,q0,lP,e0,e]
  ·simp -implicitDefEqProofs only[SP,WP,fa,sevalprocAttr,nh,p0,l0,a1,a2,r0,q0,lP,lQ,e0,e]
 ·have e0:decide ((i:Int) < (j:Int))=false:=decide_eq_false (by omega)
  have e:decide (i < j/\ss[i].parts.length=ss[j].parts.length)=false:=decide_eq_false (by omega);rw[e];simp -implicitDefEqProofs only[SP,WP,fa,sevalprocAttr,nh,e0]
theorem uQ{S:PV}{ss:List Ob}{es:List PV}(hS:qb S ss es)(Ba:Xb ss):
 ∃ y a b,Ah [.agg [S]]=some (.mc [.agg [.bool y,i64 a,i64 b],i64 0])/\(y=true↔Gm ss):=by
 have u9:(AV.pv S).one=true:=by rcases hS.is with⟨h,_⟩ | h <;> rw[h] <;> rfl
 have c25:Rj 25=some Tg:=rfl;have s0:pa [.box [.pv S],Vb false 0 0] true 1 (.ptr 0 0)=some (.pv (.agg [S])):=rfl;have hA:Q3 (Da Rj 7) 37 S ss.length (fun i j=>if h:i < ss.length/\j < ss.length then decide (i < j/\ss[i].parts.length=ss[j].parts.length) else false):=by refine⟨fun i j H hi hj hH=> ?_⟩;rw[ai Rj 6 37 _ H (f:=nh) rfl,lM _ hS i j H hi hj hH,dif_pos ⟨hi,hj⟩]
 obtain⟨y,a,b,T,h1,h2⟩:=aG hS Ba hA (fun i j hi hj h=>by rw[dif_pos ⟨hi,hj⟩] at h;have:=of_decide_eq_true h;omega) (Vb false 0 0) (fun n=>by simp[qa,Ra,Qa]);refine⟨y,a,b,?_,?_⟩
 ·have s2:Ha ([.box [.pv S],Vb false 0 0]++T) 3 (.ptr 1 0) (.pv (.agg [.bool y,i64 a,i64 b]))=some ([.box [.pv S],Vb y a b]++T):=rfl
  have l3:pa ([.box [.pv S],Vb y a b]++T) true 3 (.ptr 1 0)=some (.pv (.agg [.bool y,i64 a,i64 b])):=rfl;generalize hA1:[.box [.pv S],Vb false 0 0]++T=A1 at *;generalize hA2:[.box [.pv S],Vb y a b]++T=A2 at *;simp -implicitDefEqProofs only[Ah,SP,WP,fa,sevalprocAttr,Qs,c25,u9,s0,h1,s2,l3]
 ·rw[h2]
  unfold Gm;constructor
  ·intro h i j hi hj hlt he
   exact h i j hi hj (by rw[dif_pos ⟨hi,hj⟩];exact decide_eq_true ⟨hlt,he⟩)
  ·intro h i j hi hj hlt
   rw[dif_pos ⟨hi,hj⟩] at hlt;obtain⟨h1,h2⟩:=of_decide_eq_true hlt;exact h i j hi hj h1 h2
end Go.AM.B1
