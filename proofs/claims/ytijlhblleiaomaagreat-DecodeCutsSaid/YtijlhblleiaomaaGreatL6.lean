/- What functions of the program compute. -/
import Derived.Test.YtijlhblleiaomaaGreatL5
import Derived.Test.YtijlhblleiaomaaGreatL4
import Derived.Test.YtijlhblleiaomaaGreatL1
import Derived.Test.YtijlhblleiaomaaGreatL2
set_option linter.unusedVariables false
set_option linter.unusedSimpArgs false
namespace Go.AM.B1
open Go.AM Go.AM.So
attribute [local irreducible] qd
abbrev ints(O:List Nat):List PV:=O.map fun (o:Nat)=>i64 (Int.ofNat o)
def bg(f:Nat->Nat->Bool)(O:List Nat)(to:Int):List Nat×Int:=
 if to < 0 then (O,to) else
  (if O.findIdx (fun o=> !f o to.toNat)=O.length then O++[to.toNat] else O,(O.findIdx (fun o=> !f o to.toNat):Int))
theorem FC(H:List ba){id:Nat}{nl:Bool}{O:List Nat}{k:Nat}(hk:k < O.length):ta H 1 (.uq id nl 1 (ints O)) (k:Int)=some (.pv (.rp [i64 (O[k]:Int)] 0)):=by
 simp only[ta];rw[if_pos (by refine⟨trivial,?_⟩;unfold Ia;simp;omega)];simp[hk,PV.cells]
theorem NH(H:List ba){n:Nat}{f:Nat->Nat->Bool}{k:Nat}(hk:k < n):ta H 1 (.pv (Qk n f)) (k:Int)=some (.pv (.rp [.lit 1 (fg n (f k))] 0)):=by
 simp only[ta,Qk];rw[if_pos (by refine⟨trivial,?_⟩;unfold Ia;simp;omega)];simp[hk,PV.cells]
theorem GH(H:List ba){n:Nat}{f:Nat->Bool}{k:Nat}(hk:k < n):ta H 1 (.pv (.lit 1 (fg n f))) (k:Int)=some (.pv (.rp [.bool (f k)] 0)):=by
 simp only[ta];rw[if_pos (by refine⟨trivial,?_⟩;unfold Ia;rw[lh];omega),Daa,KB _ hk];rfl
theorem zz(H:List ba)(x:PV):pa H false 1 (.pv (.rp [x] 0))=some (.pv x):=rfl
abbrev V4(L M:PV)(O:List PV)(k len x:Nat)(to:Int)(m:Int):Tr:=
 (((((((((Tr.lf.set 16 (.pv (i64 m))).set 15 (.pv (i64 to))).set 14 (.pv (i64 x))).set 13 (.own 4 len)).set 12 (.pv (i64 k))).set 11 (.ptr 2 0)).set 10 (.uq 1 false 1 O)).set 9 (.pv M)).set 7 (.pv L)).set 2 (.ptr 0 0)
section
variable (call:Sa)(L:PV)(n:Nat)(f:Nat->Nat->Bool)(O:List Nat)(k len x:Nat)(o0 o2 o3 o4:ba)
 (hc:Ra (qa 5) [o0,.tok 1 O.length false,o2,o3,o4]=some [o0,.tok 1 O.length false,o2,o3,o4]) (hO:∀ o∈O,o < n) (hO2:O.length<=64)
include hc hO hO2
theorem FU(to:Nat)(E8:to < n):
 qd (fun r=>∃ E,r=(.exit 4,⟨E,[o0,.tok 1 O.length false,o2,o3,o4]⟩)/\E.get 2= .ptr 0 0/\E.get 7= .pv L/\E.get 9= .pv (Qk n f)/\E.get 10= .uq 1 false 1 (ints O)/\E.get 11= .ptr 2 0/\E.get 12= .pv (i64 k)/\E.get 13= .own 4 len/\E.get 14= .pv (i64 x)/\E.get 15= .pv (i64 to)/\E.get 16= .pv (i64 (O.findIdx (fun o=> !f o to):Nat)))
  (ab (ma (oa call bd) (na 5 [2,7,9,10,11,12,13,14,15,16])) ua ⟨V4 L (Qk n f) (ints O) k len x to 0,[o0,.tok 1 O.length false,o2,o3,o4]⟩):=by
 have hle:O.findIdx (fun o=> !f o to)<=O.length:=List.findIdx_le_length
 have hlO:(ints O).length=O.length:=by rw[haa]
 refine wa (Fb (g:=ma (oa call bd) (na 5 [2,7,9,10,11,12,13,14,15,16]))
  (fun m t=>t=⟨V4 L (Qk n f) (ints O) k len x to m,[o0,.tok 1 O.length false,o2,o3,o4]⟩)
  (O.findIdx (fun o=> !f o to)) (by unfold ua;omega) _ rfl ?_ ?_) (fun r h=>h.2)
 ·rintro m t hm rfl
  have hmO:m < O.length:=by omega
  have hf:f O[m] to=true:=by
   have:=List.not_of_lt_findIdx hm
   simpa using this
  have e1:decide ((m:Int) < (O.length:Int))=true:=Ea (by omega);have t2:IntKind.i64.wrap ((m:Int)+1)=((m+1:Nat):Int):=Aa (by omega)
  have i1:=fun H=>FC H (id:=1) (nl:=false) hmO;have i2:=fun H=>NH H (f:=f) (hO _ (jaa hmO));have i3:=fun H=>GH H (f:=f O[m]) E8;rw[hf] at i3;generalize O[m]=o at *;generalize fg n (f o)=T at *;generalize Qk n f=M at *;generalize ints O=os at *;have d0:(0 < 5)=True:=by simp
  have d1:(1 < 5)=True:=by simp
  have d2:(2 < 5)=True:=by simp
  have d4:(4 < 5)=True:=by simp
  have o8:∀ a b c d e:ba,([a,b,c,d,e]:List ba).take 5=[a,b,c,d,e]:=fun a b c d e=>rfl
  generalize hQ:LN _ _ m=Q;simp -implicitDefEqProofs only[SX,sevalprocAttr,bd,hlO,e1,t2,i1,i2,i3,zz,hc,o8,d0,d1,d2,d4,na,Ca,AV.cut,za,V4];subst hQ;show (_:St)=_;rfl
 ·rintro t rfl
  generalize hN:O.findIdx (fun o=> !f o to)=N at *
  have R7:∀ E:Tr,E.get 2= .ptr 0 0->E.get 7= .pv L->E.get 9= .pv (Qk n f)->E.get 10= .uq 1 false 1 (ints O)->E.get 11= .ptr 2 0->E.get 12= .pv (i64 k)->E.get 13= .own 4 len->E.get 14= .pv (i64 x)->E.get 15= .pv (i64 to)->E.get 16= .pv (i64 N)->
   (Ex.exit 4,(⟨E,[o0,.tok 1 O.length false,o2,o3,o4]⟩:St)).1.stop=true/\∃ E',(Ex.exit 4,(⟨E,[o0,.tok 1 O.length false,o2,o3,o4]⟩:St))=(.exit 4,⟨E',[o0,.tok 1 O.length false,o2,o3,o4]⟩)/\E'.get 2= .ptr 0 0/\E'.get 7= .pv L/\E'.get 9= .pv (Qk n f)/\E'.get 10= .uq 1 false 1 (ints O)/\E'.get 11= .ptr 2 0/\E'.get 12= .pv (i64 k)/\E'.get 13= .own 4 len/\E'.get 14= .pv (i64 x)/\E'.get 15= .pv (i64 to)/\E'.get 16= .pv (i64 N):=
   fun E k2 k7 k9 K9 L9 k12 k13 k14 k15 k16=>⟨rfl,E,rfl,k2,k7,k9,K9,L9,k12,k13,k14,k15,k16⟩
  generalize hQ:(fun r:Ex×St=>r.1.stop=true/\_)=Q
  by_cases E7:N < O.length
  ·have hf:f O[N] to=false:=by
    have:=List.findIdx_getElem (w:=by rw[hN];exact E7) (p:=fun o=> !f o to) (xs:=O)
    simp only[hN] at this;simpa using this
   have e1:decide ((N:Int) < (O.length:Int))=true:=Ea (by omega);have i1:=fun H=>FC H (id:=1) (nl:=false) E7;have i2:=fun H=>NH H (f:=f) (hO _ (jaa E7));have i3:=fun H=>GH H (f:=f O[N]) E8;rw[hf] at i3;generalize O[N]=o at *;generalize fg n (f o)=T at *;generalize Qk n f=M at *;generalize ints O=os at *;simp -implicitDefEqProofs only[SX,sevalprocAttr,bd,hlO,e1,i1,i2,i3,zz,V4];subst hQ;exact R7 _ (by simp[Tr.aa]) (by simp[Tr.aa]) (by simp[Tr.aa]) (by simp[Tr.aa]) (by simp[Tr.aa]) (by simp[Tr.aa]) (by simp[Tr.aa]) (by simp[Tr.aa]) (by simp[Tr.aa]) (by simp[Tr.aa])
  ·have e1:decide ((N:Int) < (O.length:Int))=false:=Ga (by omega)
   generalize Qk n f=M at *;generalize ints O=os at *;simp -implicitDefEqProofs only[SX,sevalprocAttr,bd,hlO,e1,V4];subst hQ;exact R7 _ (by simp[Tr.aa]) (by simp[Tr.aa]) (by simp[Tr.aa]) (by simp[Tr.aa]) (by simp[Tr.aa]) (by simp[Tr.aa]) (by simp[Tr.aa]) (by simp[Tr.aa]) (by simp[Tr.aa]) (by simp[Tr.aa])
theorem cT(E:Tr)(to:Int)(E8:to < (n:Int))(g2:E.get 2= .ptr 0 0)(g7:E.get 7= .pv L)(g9:E.get 9= .pv (Qk n f))(g10:E.get 10= .uq 1 false 1 (ints O))(g11:E.get 11= .ptr 2 0)(g12:E.get 12= .pv (i64 k))(g13:E.get 13= .own 4 len)(g14:E.get 14= .pv (i64 x))(g15:E.get 15= .pv (i64 to)):
 qd (fun r=>∃ E',r=(.norm,⟨E',[o0,.tok 1 (bg f O to).1.length false,o2,o3,o4]⟩)/\E'.get 2= .ptr 0 0/\E'.get 7= .pv L/\E'.get 9= .pv (Qk n f)/\E'.get 10= .uq 1 false 1 (ints (bg f O to).1)/\E'.get 11= .ptr 2 0/\E'.get 12= .pv (i64 k)/\E'.get 13= .own 4 len/\E'.get 14= .pv (i64 x)/\E'.get 15= .pv (i64 (bg f O to).2))
  (oa call OR ⟨E,[o0,.tok 1 O.length false,o2,o3,o4]⟩):=by
 have hR:∀ O' v,bg f O to=(O',v)->∀ E':Tr,E'.get 2= .ptr 0 0->E'.get 7= .pv L->E'.get 9= .pv (Qk n f)->E'.get 10= .uq 1 false 1 (ints O')->E'.get 11= .ptr 2 0->E'.get 12= .pv (i64 k)->E'.get 13= .own 4 len->E'.get 14= .pv (i64 x)->E'.get 15= .pv (i64 v)->
  ∃ E'',(Ex.norm,(⟨E',[o0,.tok 1 O'.length false,o2,o3,o4]⟩:St))=(.norm,⟨E'',[o0,.tok 1 (bg f O to).1.length false,o2,o3,o4]⟩)/\E''.get 2= .ptr 0 0/\E''.get 7= .pv L/\E''.get 9= .pv (Qk n f)/\E''.get 10= .uq 1 false 1 (ints (bg f O to).1)/\E''.get 11= .ptr 2 0/\E''.get 12= .pv (i64 k)/\E''.get 13= .own 4 len/\E''.get 14= .pv (i64 x)/\E''.get 15= .pv (i64 (bg f O to).2):=by
  intro O' v h E' k2 k7 k9 K9 L9 k12 k13 k14 k15;rw[h];exact⟨E',rfl,k2,k7,k9,K9,L9,k12,k13,k14,k15⟩
 by_cases Dac:to < 0
 ·have d1:decide (to>=0)=false:=Ga (by omega)
  have P7:bg f O to=(O,to):=by unfold bg;rw[if_pos Dac]
  generalize Q7:(fun r:Ex×St=>_)=QQ;simp -implicitDefEqProofs only[SP,WP,fa,sevalprocAttr,OR,g15,d1];subst Q7;exact hR O to P7 _ (by simp[Tr.aa,g2]) (by simp[Tr.aa,g7]) (by simp[Tr.aa,g9]) (by simp[Tr.aa,g10]) (by simp[Tr.aa,g11]) (by simp[Tr.aa,g12]) (by simp[Tr.aa,g13]) (by simp[Tr.aa,g14]) (by simp[Tr.aa,g15])
 ·have d1:decide (to>=0)=true:=Ea (by omega)
  obtain⟨t,rfl⟩:∃ t:Nat,to=t:=⟨to.toNat,by omega⟩;have hlp:=FU call L n f O k len x o0 o2 o3 o4 hc hO hO2 t (by omega);have P7:bg f O (t:Int)=(if O.findIdx (fun o=> !f o t)=O.length then O++[t] else O,(O.findIdx (fun o=> !f o t):Int)):=by unfold bg;rw[kaa Dac,Daa]
  have hlO:(ints O).length=O.length:=by rw[haa]
  generalize O.findIdx (fun o=> !f o t)=N at *
  have d0:(0 < 5)=True:=by simp
  have d1':(1 < 5)=True:=by simp
  have d2:(2 < 5)=True:=by simp
  have d4:(4 < 5)=True:=by simp
  have o8:∀ a b c d e:ba,([a,b,c,d,e]:List ba).take 5=[a,b,c,d,e]:=fun a b c d e=>rfl
  have s8:Cb [o0,.tok 1 O.length false,o2,o3,o4] false .uq 1 false 8 (.uq 1 false 1 (ints O)) (.pv (.lit 1 [i64 t]))=some (.uq 1 false 1 (ints (O++[t])),[o0,.tok 1 (O.length+1) false,o2,o3,o4]):=by have:=Mh (A:=[o0,.tok 1 O.length false,o2,o3,o4]) (id:=1) (n:=O.length) (sz:=1) (h:= .uq) (nl:=false) (ag:=false) (bytes:=8) (es:=ints O) rfl (by rw[haa]) (by unfold eb;omega) (i64 t);rw[this];simp[ints]
  have P8:(O++[t]).length=O.length+1:=by simp
  generalize Q7:(fun r:Ex×St=>_)=QQ;generalize hM:Qk n f=M at *;generalize hos:ints O=os at *;generalize tal:ints (O++[t])=os2 at *;simp -implicitDefEqProofs only[SP,WP,fa,sevalprocAttr,OR,g2,g7,g9,g10,g11,g12,g13,g14,g15,d1,Db,hc,o8,d0,d1',d2,d4,na,Ca,AV.cut,za];simp only[V4,hos] at hlp;refine wa hlp ?_;rintro r ⟨E2,rfl,k2,k7,k9,K9,L9,k12,k13,k14,k15,k16⟩
  by_cases hN:N=O.length
  ·have e2:((N:Int)==(O.length:Int))=true:=by simp[hN]
   rw[if_pos hN] at P7;simp -implicitDefEqProofs only[SP,WP,fa,sevalprocAttr,k2,k7,k9,K9,L9,k12,k13,k14,k15,k16,hlO,e2,s8,jj,AV.VE,AV.Lq];subst Q7;rw[<- P8];exact hR (O++[t]) N P7 _ (by simp[Tr.aa,k2]) (by simp[Tr.aa,k7]) (by simp[Tr.aa,k9]) (by simp[Tr.aa,tal]) (by simp[Tr.aa,L9]) (by simp[Tr.aa,k12]) (by simp[Tr.aa,k13]) (by simp[Tr.aa,k14]) (by simp[Tr.aa])
  ·have e2:((N:Int)==(O.length:Int))=false:=lj (by omega)
   rw[kaa hN] at P7;simp -implicitDefEqProofs only[SP,WP,fa,sevalprocAttr,k2,k7,k9,K9,L9,k12,k13,k14,k15,k16,hlO,e2];subst Q7;exact hR O N P7 _ (by simp[Tr.aa,k2]) (by simp[Tr.aa,k7]) (by simp[Tr.aa,k9]) (by simp[Tr.aa,K9,hos]) (by simp[Tr.aa,L9]) (by simp[Tr.aa,k12]) (by simp[Tr.aa,k13]) (by simp[Tr.aa,k14]) (by simp[Tr.aa])
end
attribute [local irreducible] qd
theorem iX(l:List ae)(e:ae)(fl:Nat):Ht (l++[e]) fl= .seq 3 true (La (yd l++[e.lo,e.hi,e.to])) fl false:=by
 have he:(l++[e]).isEmpty=false:=by cases l <;> rfl
 rw[Ht,he,Xm]
theorem fS(l:List ae)(fl n:Nat):qa n (Ht l fl)=some (Ht l fl):=by
 have:(La (yd l)).all (AV.je n deep)=true:=by
  rw[Taa];intro v hv;obtain⟨p,_,rfl⟩:=fab.1 hv
  rfl
 simp[qa,Ht,this]
theorem DU(call:Sa)(E:Tr)(o0 o1 o2 o3:ba)(x:Nat)(to:Int)(g14:E.get 14= .pv (i64 x))(g15:E.get 15= .pv (i64 to))(hx:x < 256)(E8:to≠ -2)(l:List ae)(hl:l.length<=256)(fl:Nat)(w8:fl<=l.length * 3)(g13:E.get 13= .own 4 l.length):
 qd (fun r=>∃ E' x8,x8<=(ng x to l).length * 3/\r=(.norm,⟨E',[o0,o1,o2,o3,Ht (ng x to l) x8]⟩)/\E'.get 13= .own 4 (ng x to l).length/\E'.get 2=E.get 2/\E'.get 7=E.get 7/\E'.get 9=E.get 9/\E'.get 10=E.get 10/\E'.get 11=E.get 11/\E'.get 12=E.get 12/\E'.get 14=E.get 14)
  (oa call eE ⟨E,[o0,o1,o2,o3,Ht l fl]⟩):=by
 rcases Uad l with rfl | ⟨l',e,rfl⟩
 ·have:fl=0:=by simpa using w8
  subst this;refine wa (KO call E o0 o1 o2 o3 x to g14 g15 true g13) ?_;rintro r ⟨E',rfl,k13,k2,k7,k9,K9,L9,k12,k14⟩;have hj:=az (x:=(x:Int)) E8;rw[hj];exact⟨E',0,by omega,rfl,k13,k2,k7,k9,K9,L9,k12,k14⟩
 ·rw[Vad] at *
  have hl1:(l'++[e]).length=l'.length+1:=by simp
  rw[hl1] at hl w8 g13;rw[iX];exact oP call E o0 o1 o2 o3 x to g14 g15 hx E8 l' e (by omega) fl w8 g13
theorem xJ(x to:Int)(l:List ae):(ng x to l).length<=l.length+1:=by
 by_cases h:to= -2
 ·subst h;rw[HA];omega
 ·rcases Uad l with rfl | ⟨l',e,rfl⟩
  ·rw[az h];simp
  ·rw[Vad]
   by_cases h2:e.to=to/\e.hi=x - 1
   ·obtain⟨rfl,h3⟩:=h2
    rw[VA h h3];simp
   ·rw[Dw h h2];simp
def Uo(C:List (List Int))(f:Nat->Nat->Bool)(o:Nat)(r:List Nat×List ae)(x:Nat):List Nat×List ae:=
 if ch C o x= -2 then r else ((bg f r.1 (ch C o x)).1,ng x (bg f r.1 (ch C o x)).2 r.2)
structure xy(n:Nat)(O:List Nat):Prop where
 nd:O.Nodup
 lt:∀ o∈O,o < n
theorem xy.len{n:Nat}{O:List Nat}(h:xy n O):O.length<=n:=by
 have h1:=oD n (O.map fun (o:Nat)=>Int.ofNat o) ?_ ?_
 ·simpa using h1
 ·rw[List.Nodup,List.pairwise_map]
  exact h.nd.imp fun J7 he=>J7 (Int.ofNat.inj he)
 ·intro o ho
  obtain⟨p,hp,rfl⟩:=fab.1 ho
  have:=h.lt p hp
  constructor
  ·exact Int.natCast_nonneg p
  ·exact Int.ofNat_lt.2 this
theorem yH{n:Nat}{f:Nat->Nat->Bool}(hf:∀ a,f a a=false){O:List Nat}(h:xy n O){to:Int}(E8:to < n):xy n (bg f O to).1/\∃ t,(bg f O to).1=O++t:=by
 unfold bg
 by_cases h1:to < 0
 ·rw[if_pos h1];exact⟨h,[],by simp⟩
 ·rw[kaa h1]
  by_cases h2:O.findIdx (fun o=> !f o to.toNat)=O.length
  ·rw[if_pos h2]
   have A8:∀ o∈O,f o to.toNat=true:=by
    intro o ho;obtain⟨k,hk,rfl⟩:=qab ho;have:=List.not_of_lt_findIdx (p:=fun o=> !f o to.toNat) (xs:=O) (i:=k) (by omega)
    simpa using this
   refine⟨⟨?_,?_⟩,[to.toNat],rfl⟩
   ·rw[List.nodup_append]
    refine⟨h.nd,by simp,?_⟩;intro a ha b hb;rw[Hab] at hb;subst hb;intro he;subst he;have:=A8 _ ha;rw[hf] at this;cases this
   ·intro o ho
    rcases Jaa.1 ho with h3 | h3
    ·exact h.lt o h3
    ·rw[Hab] at h3;subst h3;omega
  ·rw[kaa h2];exact⟨h,[],by simp⟩
theorem yT{f:Nat->Nat->Bool}{O:List Nat}{to:Int}(h:to≠ -2)(h2: -2<=to):(bg f O to).2≠ -2:=by
 unfold bg
 by_cases h1:to < 0
 ·rw[if_pos h1];exact h
 ·rw[kaa h1];simp only;omega
abbrev GY(L M:PV)(O:List PV)(k len x:Nat):Tr:=
 (((((((Tr.lf.set 14 (.pv (i64 x))).set 13 (.own 4 len)).set 12 (.pv (i64 k))).set 11 (.ptr 2 0)).set 10 (.uq 1 false 1 O)).set 9 (.pv M)).set 7 (.pv L)).set 2 (.ptr 0 0)
section
variable (call:Sa){C:List (List Int)}(hC:VL C)(e9:∀ r∈C,∀ v∈r,-2<=v){f:Nat->Nat->Bool}(hf:∀ a,f a a=false)(k:Nat)(o0 o2 o3:ba)(h0:∀ n,qa n o0=some o0)(h2:qa 5 o2=some o2)(h3:∀ n,qa n o3=some o3)
include hC e9 hf h0 h2 h3
omit hf in
theorem fH{O:List Nat}(hO:xy C.length O){o:Nat}(hk:O[k]? =some o){l:List ae}{x:Nat}(hx:x < 256)(hl:l.length<=x){fl:Nat}(w8:fl<=l.length * 3):
 qd (fun r=>∃ x8,x8<=(Uo C f o (O,l) x).2.length * 3/\r=(.norm,⟨GY (.lit 256 (C.map Xi)) (Qk C.length f) (ints (Uo C f o (O,l) x).1) k (Uo C f o (O,l) x).2.length (x+1),[o0,.tok 1 (Uo C f o (O,l) x).1.length false,o2,o3,Ht (Uo C f o (O,l) x).2 x8]⟩))
  (ma (oa call Hf) (na 5 [2,7,9,10,11,12,13,14]) ⟨GY (.lit 256 (C.map Xi)) (Qk C.length f) (ints O) k l.length x,[o0,.tok 1 O.length false,o2,o3,Ht l fl]⟩):=by
 have hkO:=(iaa.1 hk).1
 have hko:O[k]=o:=(iaa.1 hk).2
 have ho:o < C.length:=by rw[<- hko];exact hO.lt _ (jaa hkO)
 have xai:O.length<=64:=mac hO.len hC.sz
 have i1:=fun H=>FC H (id:=1) (nl:=false) hkO;rw[hko] at i1;have i2:=fun H=>hC.Pd ho H
 have l2:=fun H=>hC.load ho hx H
 have hv:=(hC.get ho hx).2
 have hv2: -2<=ch C o x:=e9 _ (jaa ho) _ (nab (hC.get ho hx).1);have e1:decide ((x:Int) < 256)=true:=Ea (by omega);have hq:Ia (x:Int) 256:=by unfold Ia;omega
 have t1:((x:Int)).toNat=x:=by simp
 have m1:x * 1=x:=by omega
 have z1:0+x=x:=by omega
 have t2:IntKind.i64.wrap ((x:Int)+1)=((x+1:Nat):Int):=Aa (by omega)
 have P7:∀ (m:Nat)(l:List ae)(fl:Nat),Ra (qa 5) [o0,.tok 1 m false,o2,o3,Ht l fl]=some [o0,.tok 1 m false,o2,o3,Ht l fl]:=by intro m l fl;have c1:qa 5 (.tok 1 m false)=some (.tok 1 m false):=rfl;simp only[Ra,h0,h2,h3,c1,fS,yaa,Haa]
 have o8:∀ a b c d e:ba,([a,b,c,d,e]:List ba).take 5=[a,b,c,d,e]:=fun a b c d e=>rfl
 have d0:(0 < 5)=True:=by simp
 have d1:(1 < 5)=True:=by simp
 have d2:(2 < 5)=True:=by simp
 have d4:(4 < 5)=True:=by simp
 have yai:=fun (E:Tr) g2 g7 g9 g10 g11 g12 g13 g14 g15=>cT call (.lit 256 (C.map Xi)) C.length f O k l.length x o0 o2 o3 (Ht l fl) (P7 _ _ _) hO.lt xai E (ch C o x) hv g2 g7 g9 g10 g11 g12 g13 g14 g15
 have hce:ch C o x≠ -2->(bg f O (ch C o x)).2≠ -2:=fun h=>yT h hv2
 have hR:∀ r,Uo C f o (O,l) x=r->∀ x8,x8<=r.2.length * 3->∀ s:St,s=⟨GY (.lit 256 (C.map Xi)) (Qk C.length f) (ints r.1) k r.2.length (x+1),[o0,.tok 1 r.1.length false,o2,o3,Ht r.2 x8]⟩->
  ∃ x8,x8<=(Uo C f o (O,l) x).2.length * 3/\(Ex.norm,s)=(.norm,⟨GY (.lit 256 (C.map Xi)) (Qk C.length f) (ints (Uo C f o (O,l) x).1) k (Uo C f o (O,l) x).2.length (x+1),[o0,.tok 1 (Uo C f o (O,l) x).1.length false,o2,o3,Ht (Uo C f o (O,l) x).2 x8]⟩):=by
  intro r hr x8 Eac s hs;subst hr;exact⟨x8,Eac,by rw[hs]⟩
 have hrx:ch C o x= -2->Uo C f o (O,l) x=(O,l):=fun h=>by unfold Uo;rw[if_pos h]
 have ual:ch C o x≠ -2->Uo C f o (O,l) x=((bg f O (ch C o x)).1,ng x (bg f O (ch C o x)).2 l):=fun h=>by unfold Uo;rw[kaa h]
 generalize Q7:(fun r:Ex×St=>_)=QQ;generalize ch C o x=to at *;generalize hL:(PV.lit 256 (C.map Xi))=L at *;generalize hM:Qk C.length f=M at *
 generalize hoR:C[o].map i64=oR at *
 by_cases E8:to= -2
 ·have b1:(to== -2)=true:=by simp[E8]
  have yag:=P7 O.length l fl
  have R7:=hR (O,l) (hrx E8) fl w8;generalize hos:ints O=os at *;generalize hO4:Ht l fl=o4 at *;simp -implicitDefEqProofs only[SP,WP,fa,sevalprocAttr,Iy,e1,i1,i2,l2,zz,Tj,Iaa hq,t1,m1,z1,b1,t2,yag,o8,d0,d1,d2,d4,na,Ca,AV.cut,za,GY];subst Q7;exact R7 _ (by simp only[GY,hos,hO4])
 ·have b1:(to== -2)=false:=lj E8
  have xal:=hce E8;generalize hos:ints O=os at *;generalize hO4:Ht l fl=o4 at *;simp -implicitDefEqProofs only[SP,WP,fa,sevalprocAttr,Iy,e1,i1,i2,l2,zz,Tj,Iaa hq,t1,m1,z1,b1,GY];refine wa (yai _ ?_ ?_ ?_ ?_ ?_ ?_ ?_ ?_ ?_) ?_
  any_goals (simp[Tr.aa];done)
  rintro r ⟨E2,rfl,k2,k7,k9,K9,L9,k12,k13,k14,k15⟩;simp -implicitDefEqProofs only[SP,WP,fa,sevalprocAttr];subst hO4;refine wa (DU call E2 o0 _ o2 o3 x _ k14 k15 hx xal l (by omega) fl w8 k13) ?_;rintro r ⟨E3,x8,Eac,rfl,j13,j2,j7,j9,j10,j11,j12,j14⟩;rw[k2] at j2;rw[k7] at j7;rw[k9] at j9;rw[K9] at j10;rw[L9] at j11;rw[k12] at j12;rw[k14] at j14;have yag:=P7 (bg f O to).1.length (ng x (bg f O to).2 l) x8
  have R7:=hR _ (ual E8) x8 Eac;simp only at R7;generalize (bg f O to).1.length=n1 at *
  generalize Oap:ints (bg f O to).1=os1 at *
  generalize (ng x (bg f O to).2 l).length=n2 at *
  generalize Ht (ng x (bg f O to).2 l) x8=o4 at *;simp -implicitDefEqProofs only[SP,WP,fa,sevalprocAttr,j2,j7,j9,j10,j11,j12,j13,j14,t2,yag,o8,d0,d1,d2,d4,na,Ca,AV.cut,za];subst Q7;exact R7 _ rfl
end
attribute [local irreducible] qd
def Rg(C:List (List Int))(f:Nat->Nat->Bool)(o:Nat)(O:List Nat)(x:Nat):List Nat×List ae:=(List.range x).foldl (Uo C f o) (O,[])
theorem XA(C:List (List Int))(f:Nat->Nat->Bool)(o:Nat)(O:List Nat)(x:Nat):Rg C f o O (x+1)=Uo C f o (Rg C f o O x) x:=by
 unfold Rg;rw[gad,Lad];rfl
theorem cW{C:List (List Int)}(hC:VL C){f:Nat->Nat->Bool}(hf:∀ a,f a a=false){o:Nat}(ho:o < C.length){r:List Nat×List ae}(h:xy C.length r.1){x:Nat}(hx:x < 256):
 xy C.length (Uo C f o r x).1/\(∃ t,(Uo C f o r x).1=r.1++t)/\(Uo C f o r x).2.length<=r.2.length+1:=by
 unfold Uo
 split
 ·exact⟨h,⟨[],by simp⟩,by omega⟩
 ·obtain⟨h1,h2⟩:=yH hf h (hC.get ho hx).2
  exact⟨h1,h2,xJ _ _ _⟩
theorem ID{C:List (List Int)}(hC:VL C){f:Nat->Nat->Bool}(hf:∀ a,f a a=false){o:Nat}(ho:o < C.length){O:List Nat}(h:xy C.length O):∀ (x:Nat),x<=256->
 xy C.length (Rg C f o O x).1/\(∃ t,(Rg C f o O x).1=O++t)/\(Rg C f o O x).2.length<=x
 |0,_=>⟨h,⟨[],by simp[Rg]⟩,by simp[Rg]⟩
 |x+1,hx=>by obtain⟨h1,⟨t,h2⟩,h3⟩:=ID hC hf ho h x (by omega);obtain⟨k1,⟨t',k2⟩,k3⟩:=cW hC hf ho h1 (x:=x) (by omega);rw[XA];exact⟨k1,⟨t++t',by rw[k2,h2,Dab]⟩,by omega⟩
def lr(C:List (List Int))(f:Nat->Nat->Bool):Nat->List Nat×List (List ae)->List Nat×List (List ae)
 |0,r=>r
 |k+1,r=>match r.1[r.2.length]? with
  |none=>r
  |some o=>lr C f k ((Rg C f o r.1 256).1,r.2++[(Rg C f o r.1 256).2])
theorem MI{C:List (List Int)}{f:Nat->Nat->Bool}{k:Nat}{r:List Nat×List (List ae)}(h:r.1[r.2.length]? =none):lr C f k r=r:=by
 cases k with
 |zero=>rfl
 |succ k=>rw[lr,h]
theorem zF{C:List (List Int)}{f:Nat->Nat->Bool}{k:Nat}{r:List Nat×List (List ae)}{o:Nat}(h:r.1[r.2.length]? =some o):lr C f (k+1) r=lr C f k ((Rg C f o r.1 256).1,r.2++[(Rg C f o r.1 256).2]):=by
 rw[lr,h]
section
variable (call:Sa){C:List (List Int)}(hC:VL C)(e9:∀ r∈C,∀ v∈r,-2<=v){f:Nat->Nat->Bool}(hf:∀ a,f a a=false)
include hC e9 hf
theorem pW(k:Nat)(o0 o2 o3:ba)(h0:∀ n,qa n o0=some o0)(h2:qa 5 o2=some o2)(h3:∀ n,qa n o3=some o3){O:List Nat}(hO:xy C.length O){o:Nat}(hk:O[k]? =some o):
 qd (fun r=>∃ E fl,r=(.exit 2,⟨E,[o0,.tok 1 (Rg C f o O 256).1.length false,o2,o3,Ht (Rg C f o O 256).2 fl]⟩)/\E.get 2= .ptr 0 0/\E.get 7= .pv (.lit 256 (C.map Xi))/\E.get 9= .pv (Qk C.length f)/\E.get 10= .uq 1 false 1 (ints (Rg C f o O 256).1)/\E.get 11= .ptr 2 0/\E.get 12= .pv (i64 k)/\E.get 13= .own 4 (Rg C f o O 256).2.length)
  (ab (ma (oa call Hf) (na 5 [2,7,9,10,11,12,13,14])) ua ⟨GY (.lit 256 (C.map Xi)) (Qk C.length f) (ints O) k 0 0,[o0,.tok 1 O.length false,o2,o3,Ht [] 0]⟩):=by
 have hkO:=(iaa.1 hk).1
 have hko:O[k]=o:=(iaa.1 hk).2
 have ho:o < C.length:=by rw[<- hko];exact hO.lt _ (jaa hkO)
 refine wa (Fb (g:=ma (oa call Hf) (na 5 [2,7,9,10,11,12,13,14]))
  (fun x t=>∃ fl,fl<=(Rg C f o O x).2.length * 3/\t=⟨GY (.lit 256 (C.map Xi)) (Qk C.length f) (ints (Rg C f o O x).1) k (Rg C f o O x).2.length x,[o0,.tok 1 (Rg C f o O x).1.length false,o2,o3,Ht (Rg C f o O x).2 fl]⟩)
  256 (by unfold ua;omega) _ ⟨0,by omega,rfl⟩ ?_ ?_) (fun r h=>h.2)
 ·rintro x t hx ⟨fl,w8,rfl⟩
  obtain⟨q1,⟨t,q2⟩,q3⟩:=ID hC hf ho hO x (by omega);have hk':(Rg C f o O x).1[k]? =some o:=by rw[q2,eaa hkO];exact hk
  refine wa (fH call hC e9 k o0 o2 o3 h0 h2 h3 q1 hk' hx q3 w8) ?_;rintro r ⟨x8,Eac,rfl⟩;have:Uo C f o ((Rg C f o O x).1,(Rg C f o O x).2) x=Rg C f o O (x+1):=(XA C f o O x).symm
  rw[this] at Eac ⊢;exact⟨x8,Eac,rfl⟩
 ·rintro t ⟨fl,w8,rfl⟩
  have e1:decide (((256:Nat):Int) < 256)=false:=Ga (by omega);generalize Rg C f o O 256=r at *;have R7:∀ E:Tr,E.get 2= .ptr 0 0->E.get 7= .pv (.lit 256 (C.map Xi))->E.get 9= .pv (Qk C.length f)->E.get 10= .uq 1 false 1 (ints r.1)->E.get 11= .ptr 2 0->E.get 12= .pv (i64 k)->E.get 13= .own 4 r.2.length->
   (Ex.exit 2,(⟨E,[o0,.tok 1 r.1.length false,o2,o3,Ht r.2 fl]⟩:St)).1.stop=true/\∃ E' x8,(Ex.exit 2,(⟨E,[o0,.tok 1 r.1.length false,o2,o3,Ht r.2 fl]⟩:St))=(.exit 2,⟨E',[o0,.tok 1 r.1.length false,o2,o3,Ht r.2 x8]⟩)/\E'.get 2= .ptr 0 0/\E'.get 7= .pv (.lit 256 (C.map Xi))/\E'.get 9= .pv (Qk C.length f)/\E'.get 10= .uq 1 false 1 (ints r.1)/\E'.get 11= .ptr 2 0/\E'.get 12= .pv (i64 k)/\E'.get 13= .own 4 r.2.length:=
   fun E k2 k7 k9 K9 L9 k12 k13=>⟨rfl,E,fl,rfl,k2,k7,k9,K9,L9,k12,k13⟩
  generalize hQ:(fun r:Ex×St=>r.1.stop=true/\_)=Q;generalize (PV.lit 256 (C.map Xi))=L at *;generalize Qk C.length f=M at *
  generalize ints r.1=os at *
  generalize Ht r.2 fl=o4 at *
  simp -implicitDefEqProofs only[SX,sevalprocAttr,Iy,e1,GY];subst hQ;exact R7 _ (by simp[Tr.aa]) (by simp[Tr.aa]) (by simp[Tr.aa]) (by simp[Tr.aa]) (by simp[Tr.aa]) (by simp[Tr.aa]) (by simp[Tr.aa])
end
abbrev B4(L M:PV)(O:List PV)(k:Nat):Tr:=
 (((((Tr.lf.set 12 (.pv (i64 k))).set 11 (.ptr 2 0)).set 10 (.uq 1 false 1 O)).set 9 (.pv M)).set 7 (.pv L)).set 2 (.ptr 0 0)
abbrev bB(nl:Bool)(es:List PV):ba:= .box [.uq 3 nl 1 es]
abbrev XE(out:List (List ae)):List PV:=out.map Ee
section
variable (call:Sa){C:List (List Int)}(hC:VL C)(e9:∀ r∈C,∀ v∈r,-2<=v){f:Nat->Nat->Bool}(hf:∀ a,f a a=false)
include hC e9 hf
theorem GG(o0:ba)(h0:∀ n,qa n o0=some o0){O:List Nat}(hO:xy C.length O){out:List (List ae)}{o:Nat}(hk:O[out.length]? =some o):
 qd (fun r=>r=(.norm,⟨B4 (.lit 256 (C.map Xi)) (Qk C.length f) (ints (Rg C f o O 256).1) (out.length+1),[o0,.tok 1 (Rg C f o O 256).1.length false,bB false (XE (out++[(Rg C f o O 256).2])),.tok 1 (out.length+1) false]⟩))
  (ma (oa call Yc) (na 4 [2,7,9,10,11,12]) ⟨B4 (.lit 256 (C.map Xi)) (Qk C.length f) (ints O) out.length,[o0,.tok 1 O.length false,bB out.isEmpty (XE out),.tok 1 out.length out.isEmpty]⟩):=by
 have hkO:=(iaa.1 hk).1
 have hko:O[out.length]=o:=(iaa.1 hk).2
 have xai:O.length<=64:=mac hO.len hC.sz
 have ho:o < C.length:=by rw[<- hko];exact hO.lt _ (jaa hkO)
 have hlO:(ints O).length=O.length:=by rw[haa]
 have o9:(XE out).length=out.length:=by rw[haa]
 have e1:decide ((out.length:Int) < (O.length:Int))=true:=Ea (by omega);have t2:IntKind.i64.wrap ((out.length:Int)+1)=((out.length+1:Nat):Int):=Aa (by omega)
 have hc2:∀ nl es,qa 5 (bB nl es)=some (bB nl es):=fun nl es=>rfl;have hl1:=pW call hC e9 hf out.length o0 (bB out.isEmpty (XE out)) (.tok 1 out.length out.isEmpty) h0 (hc2 _ _) (fun n=>rfl) hO hk
 have maa:∀ (m:Nat)(nl:Bool)(es:List PV)(n:Nat)(l:List ae)(fl:Nat),Ra (qa 5) [o0,.tok 1 m false,bB nl es,.tok 1 n nl,Ht l fl]=some [o0,.tok 1 m false,bB nl es,.tok 1 n nl,Ht l fl]:=by intro m nl es n l fl;have c1:∀ m nl,qa 5 (.tok 1 m nl)=some (.tok 1 m nl):=fun m nl=>rfl;simp only[Ra,h0,hc2,c1,fS,yaa,Haa]
 have yal:∀ nl es,qa 4 (bB nl es)=some (bB nl es):=fun nl es=>rfl;have Kab:∀ (m:Nat)(nl:Bool)(es:List PV)(n:Nat),Ra (qa 4) [o0,.tok 1 m false,bB nl es,.tok 1 n nl]=some [o0,.tok 1 m false,bB nl es,.tok 1 n nl]:=by intro m nl es n;have c1:∀ m nl,qa 4 (.tok 1 m nl)=some (.tok 1 m nl):=fun m nl=>rfl;simp only[Ra,h0,yal,c1,yaa,Haa]
 have hez:ba.seq 3 true [] 0 true=Ht [] 0:=rfl
 have Caa:∀ a b c d e:ba,([a,b,c,d,e]:List ba).take 5=[a,b,c,d,e]:=fun a b c d e=>rfl
 have Lab:∀ a b c d e:ba,([a,b,c,d,e]:List ba).take 4=[a,b,c,d]:=fun a b c d e=>rfl
 have d50:(0 < 5)=True:=by simp
 have d51:(1 < 5)=True:=by simp
 have d52:(2 < 5)=True:=by simp
 have d54:(4 < 5)=True:=by simp
 have d40:(0 < 4)=True:=by simp
 have d41:(1 < 4)=True:=by simp
 have d42:(2 < 4)=True:=by simp
 have g3:(0 < 3)=True:=by simp
 generalize hr:Rg C f o O 256=r at *;obtain⟨O',l⟩:=r;simp only at hl1 ⊢;have Q9:∀ (E:Tr)(fl:Nat)(a b c d:ba),E.get 13= .own 4 l.length->fe (.freeze 13) ⟨E,[a,b,c,d,Ht l fl]⟩=some ⟨E.set 13 (.pv (Ee l)),[a,b,c,d,.dead]⟩:=by
  intro E fl a b c d h;have h1:l.length * 3=(La (yd l)).length:=by rw[mb,Sk]
  simp only[fe,h,eab,dab,Ht];rw[if_pos ⟨h1,rfl⟩,Mac,Mac,Mac,Mac,fac];cases hl:l with
  |nil=>rfl
  |cons e l'=>
   rw[<- hl];have:l.isEmpty=false:=by rw[hl];rfl
   rw[this];simp only[saa,if_false];have h2:Tc (La (yd l))=some ((yd l).map i64):=by rw[dv,Qf]
   rw[h2,Haa,dP,Ee,this];rfl
 have X7:∀ (a b c d:ba) nl es,place [a,b,bB nl es,c,d] 0 (.ptr 2 0)=some (.ptr 2 0):=fun a b c d nl es=>rfl;have hld:∀ (a b c d:ba) nl es,pa [a,b,bB nl es,c,d] false 1 (.ptr 2 0)=some (.uq 3 nl 1 es):=fun a b c d nl es=>rfl;have Y7:∀ (a b c d:ba) nl nl' es es',Ha [a,b,bB nl es,c,d] 1 (.ptr 2 0) (.uq 3 nl' 1 es')=some [a,b,bB nl' es',c,d]:=fun a b c d nl nl' es es'=>rfl;have s8:Cb [o0,.tok 1 O'.length false,bB out.isEmpty (XE out),.tok 1 out.length out.isEmpty,.dead] false .uq 1 false 24 (.uq 3 out.isEmpty 1 (XE out)) (.pv (.lit 1 [Ee l]))=some (.uq 3 false 1 (XE (out++[l])),[o0,.tok 1 O'.length false,bB out.isEmpty (XE out),.tok 1 (out.length+1) false,.dead]):=by
  have:=Mh (A:=[o0,.tok 1 O'.length false,bB out.isEmpty (XE out),.tok 1 out.length out.isEmpty,.dead]) (id:=3) (n:=out.length) (sz:=1) (h:= .uq) (nl:=out.isEmpty) (ag:=false) (bytes:=24) (es:=XE out) rfl o9.symm (by unfold eb;omega) (Ee l)
  rw[this];simp[XE]
 have S7:(AV.pv (Ee l)).one=true:=by unfold Ee;split <;> rfl
 have zal:(AV.pv (Ee l)).cells=[.pv (Ee l)]:=by unfold Ee;split <;> rfl
 have hpu:(AV.pv (Ee l)).VE= .pv (Ee l):=by unfold Ee;split <;> rfl
 have hpc:(Ee l).cells=[Ee l]:=by unfold Ee;split <;> rfl
 have zai:=maa O.length out.isEmpty (XE out) out.length [] 0
 have Aai:=Kab O'.length false (XE (out++[l])) (out.length+1)
 generalize Ee l=el at *;generalize Q7:(fun r:Ex×St=>_)=QQ;generalize hL:(PV.lit 256 (C.map Xi))=L at *;generalize hM:Qk C.length f=M at *
 generalize hos:ints O=os at *;generalize Qap:ints O'=os' at *;generalize hou:XE out=ou at *;generalize Rap:XE (out++[l])=ou' at *;generalize hzb:Ht [] 0=zb at *;generalize hob:bB out.isEmpty ou=ob at *
 simp -implicitDefEqProofs only[SP,WP,fa,sevalprocAttr,Yc,hlO,e1,fe,g3,hez,Db,zai,Caa,d50,d51,d52,d54,na,Ca,AV.cut,za,B4];refine wa hl1 ?_;rintro r ⟨E,fl,rfl,k2,k7,k9,K9,L9,k12,k13⟩;have Aal:=Q9 E fl o0 (.tok 1 O'.length false) ob (.tok 1 out.length out.isEmpty) k13;subst hob;simp -implicitDefEqProofs only[SP,WP,fa,sevalprocAttr,Aal,k2,k7,k9,K9,L9,k12,X7,hld,s8,Y7,jj,S7,zal,hpu,hpc,t2,Aai,Lab,d40,d41,d42,na,Ca,AV.cut,za];subst Q7;rfl
end
theorem uE(fb:List Int):∀ (xs:List Nat)(r:List Int×List Int),Td fb xs r=xs.foldl (fun r x=>Dj x (fb.getD x 0) r) r
 | [],r=>rfl
 |x::xs,r=>by rw[Td,uE fb xs,uad]
theorem LB(row:List Int):∀ (xs:List Nat)(l:List ae),Qe row xs l=xs.foldl (fun l (x:Nat)=>ng x (row.getD x 0) l) l
 | [],l=>rfl
 |x::xs,l=>by rw[Qe,LB row xs,uad]
theorem foldl_congr{α β:Type}{f g:β->α->β}:∀ (l:List α)(b:β),(∀ b,∀ a∈l,f b a=g b a)->l.foldl f b=l.foldl g b
 | [],b,_=>rfl
 |a::l,b,h=>by rw[uad,uad,h b a (by simp)];exact foldl_congr l _ fun b a' ha=>h b a' (by simp[ha])
theorem XN{v:Int}{co:Nat->Int}{p:Nat->Bool}:∀ (O:List Nat)(k:Nat),(∀ o∈O,(v=co o↔p o=true))->
 Iv v (O.map co) k=if O.findIdx p < O.length then some (k+O.findIdx p) else none
 | [],k,_=>by simp[Iv]
 |o::O,k,h=>by
  rw[lab,Iv,List.findIdx_cons];have ho:=h o (by simp)
  by_cases hp:p o=true
  ·rw[if_pos (ho.2 hp),hp];simp
  ·have hp':p o=false:=by simpa using hp
   rw[kaa fun e=>hp (ho.1 e),hp',XN O (k+1) fun o' ho'=>h o' (by simp[ho'])];simp only[cond_false,Oaa]
   by_cases E7:O.findIdx p < O.length
   ·rw[if_pos E7,if_pos (by omega)];congr 1;omega
   ·rw[kaa E7,kaa (by omega)]
def co(C:List (List Int))(o:Nat):Int:=if o=0 then 0 else cls C o
section
variable {ss:List Nb}{B7:List Al}{C:List (List Int)}(Ba:Xb ss)(I7:Gf ss)(W:Dm ss B7 C)(hl:C.length=B7.length)
 {f:Nat->Nat->Bool} (hf:∀ a,f a a=false) (hK:∀ i j,i < C.length->j < C.length->(f i j=false↔cls C i=cls C j))
include Ba I7 W hl hf hK
omit hf hK in
theorem BR{t:Nat}(h0:0 < t)(ht:t < C.length):cls C t≠0:=by
 intro h;have h1:=(W.NA hl).mq ht
 have h2:(ff C.length C.flatten).Ac.getD t 0=0:=h
 rw[h2] at h1;exact W.WD Ba I7 hl h0 ht (((W.NA hl).yM (by omega) ht).2 h1.2.2)
omit Ba I7 hf hK in
theorem IK{o x:Nat}(ho:o < C.length)(hx:x < 256):(Va (ff C.length C.flatten).C (co C o).toNat).getD x 0=Ss C o x:=by
 rw[<- W.UU hl ho hx];unfold co
 by_cases h:o=0
 ·rw[if_pos h,h];rfl
 ·rw[kaa h]
  have:=((W.NA hl).mq ho).2.2
  unfold cls;rw[this]
omit hf in
theorem uP{O:List Nat}(hO:xy C.length O){t:Nat}(h0:0 < t)(ht:t < C.length):Iv (cls C t) (O.map (co C)) 0=if O.findIdx (fun o=> !f o t) < O.length then some (O.findIdx (fun o=> !f o t)) else none:=by
 rw[XN (p:=fun o=> !f o t)]
 ·simp
 ·intro o ho
  have hoC:=hO.lt o ho
  unfold co
  by_cases hz:o=0
  ·subst hz
   rw[if_pos rfl];constructor
   ·intro h;exact absurd h (BR Ba I7 W hl h0 ht)
   ·intro h
    have:f 0 t=false:=by simpa using h
    exact absurd ((hK 0 t (by omega) ht).1 this) (W.WD Ba I7 hl h0 ht)
  ·rw[kaa hz]
   have:=hK o t hoC ht;constructor
   ·intro h;have:=this.2 h.symm;simp[this]
   ·intro h;exact (this.1 (by simpa using h)).symm
structure Y1(C:List (List Int))(o:Nat)(x:Nat)(rt:List Int×List Int)(rr:List Nat×List ae):Prop where
 ord:xy C.length rr.1
 fst:rt.1=rr.1.map (co C)
 len:rt.2.length=256
 rest:∀ y,x<=y->y < 256->rt.2.getD y 0=Ss C o y
 F2:rr.2=(List.range x).foldl (fun l (y:Nat)=>ng y (rt.2.getD y 0) l) []
theorem cV{o x:Nat}(ho:o < C.length)(hx:x < 256){rt:List Int×List Int}{rr:List Nat×List ae}(h:Y1 C o x rt rr):Y1 C o (x+1) (Dj x (Ss C o x) rt) (Uo C f o rr x):=by
 have hbd:=W.bound hl ho hx
 have yab:=h.rest x (paa _) hx
 have Had:∀ (row:List Int)(l:List ae),(∀ y,y≠x->row.getD y 0=rt.2.getD y 0)->l=ng x (row.getD x 0) rr.2->l=(List.range (x+1)).foldl (fun l (y:Nat)=>ng y (row.getD y 0) l) []:=by
  intro row l h1 h2;rw[gad,Lad,h2,h.F2];show ng x _ _=ng x _ _
  congr 1
  refine foldl_congr _ _ fun b a ha=> ?_;have:a < x:=by simpa using ha
  rw[h1 a (by omega)]
 by_cases Dac:ch C o x < 0
 ·have hn:Ss C o x=ch C o x:=by unfold Ss;rw[kaa (by omega)]
  have ht:Dj x (Ss C o x) rt=rt:=by unfold Dj;rw[if_pos (by omega)]
  rw[ht];have hr1:(Uo C f o rr x).1=rr.1:=by
   unfold Uo bg
   split
   ·rfl
   ·first | rfl | rw[if_pos Dac]
  have hr2:(Uo C f o rr x).2=ng x (rt.2.getD x 0) rr.2:=by
   rw[yab,hn];unfold Uo bg
   split
   ·next h2=>rw[h2,HA]
   ·first | rfl | rw[if_pos Dac]
  exact⟨by rw[hr1];exact h.ord,by rw[hr1];exact h.fst,h.len,fun y h1 h2=>h.rest y (by omega) h2,Had _ _ (fun _ _=>rfl) hr2⟩
 ·obtain⟨t,ht⟩:∃ t:Nat,ch C o x=t:=⟨(ch C o x).toNat,by omega⟩
  have lan:=W.vD hl ho hx (by omega)
  have h0:0 < t:=by omega
  have htC:t < C.length:=by omega
  have hn:Ss C o x=cls C t:=by unfold Ss;rw[if_pos (by omega),ht,Daa]
  have hnn:=W.ZO hl htC
  have hsc:=uP Ba I7 W hl hK h.ord h0 htC
  have hrf:Uo C f o rr x=(if rr.1.findIdx (fun o=> !f o t)=rr.1.length then rr.1++[t] else rr.1,ng x (rr.1.findIdx (fun o=> !f o t):Int) rr.2):=by unfold Uo bg;rw[kaa (by omega),kaa Dac,ht,Daa]
  have hoC:=(yH hf h.ord (to:=(t:Int)) (by omega)).1
  have P7:(bg f rr.1 (t:Int)).1=if rr.1.findIdx (fun o=> !f o t)=rr.1.length then rr.1++[t] else rr.1:=by unfold bg;rw[kaa (by omega),Daa]
  rw[P7] at hoC;have hle:rr.1.findIdx (fun o=> !f o t)<=rr.1.length:=List.findIdx_le_length
  rw[hrf];have J8:∀ v:Int,(∀ y,y≠x->(rt.2.set x v).getD y 0=rt.2.getD y 0)/\(rt.2.set x v).getD x 0=v:=by
   intro v;refine⟨fun y hy=> ?_,?_⟩
   ·rw[taa,Gaa (lac hy),<-taa]
   ·rw[taa,Maa (by rw[h.len];exact hx)];rfl
  by_cases E7:rr.1.findIdx (fun o=> !f o t) < rr.1.length
  ·rw[if_pos E7] at hsc
   have htd:Dj x (Ss C o x) rt=(rt.1,rt.2.set x (rr.1.findIdx (fun o=> !f o t):Int)):=by unfold Dj;rw[hn,kaa (by omega),h.fst,hsc]
   rw[htd,kaa (by omega)];refine⟨h.ord,h.fst,by simp[h.len],fun y h1 h2=> ?_,?_⟩
   ·rw[(J8 _).1 y (by omega)];exact h.rest y (by omega) h2
   ·exact Had _ _ (J8 _).1 (by rw[(J8 _).2])
  ·rw[kaa E7] at hsc
   have hfe:rr.1.findIdx (fun o=> !f o t)=rr.1.length:=by omega
   have htd:Dj x (Ss C o x) rt=(rt.1++[cls C t],rt.2.set x (rt.1.length:Int)):=by unfold Dj;rw[hn,kaa (by omega),h.fst,hsc]
   rw[if_pos hfe] at hoC;rw[htd,if_pos hfe];have hll:rt.1.length=rr.1.length:=by rw[h.fst,haa]
   refine⟨hoC,?_,by simp[h.len],fun y h1 h2=> ?_,?_⟩
   ·simp only[jac,lab,Oad,h.fst]
    unfold co;rw[kaa (by omega:¬t=0)]
   ·rw[(J8 _).1 y (by omega)];exact h.rest y (by omega) h2
   ·exact Had _ _ (J8 _).1 (by rw[(J8 _).2,hll,hfe])
theorem sY{o:Nat}(ho:o < C.length){O:List Nat}(hO:xy C.length O):Hg (ff C.length C.flatten).C (co C o) (O.map (co C))=((Rg C f o O 256).1.map (co C),(Hg (ff C.length C.flatten).C (co C o) (O.map (co C))).2)/\
 wg (Hg (ff C.length C.flatten).C (co C o) (O.map (co C))).2=(Rg C f o O 256).2/\xy C.length (Rg C f o O 256).1:=by
 have hrl:(Va (ff C.length C.flatten).C (co C o).toNat).length=256:=by
  refine Ei (W.NA hl).hC ?_
  unfold co
  split
  ·simp;omega
  ·have:=(W.NA hl).mq ho
   unfold cls;omega
 have key:∀ x,x<=256->Y1 C o x ((List.range x).foldl (fun r x=>Dj x ((Va (ff C.length C.flatten).C (co C o).toNat).getD x 0) r) (O.map (co C),Va (ff C.length C.flatten).C (co C o).toNat)) (Rg C f o O x):=by
  intro x
  induction x with
  |zero=>intro _;exact⟨hO,rfl,hrl,fun y _ hy=>IK W hl ho hy,rfl⟩
  |succ x ih=>
   intro hx;have h1:=cV Ba I7 W hl hf hK ho (show x < 256 by omega) (ih (by omega));rw[XA,gad,Lad];have h2:(Va (ff C.length C.flatten).C (co C o).toNat).getD x 0=Ss C o x:=IK W hl ho (by omega)
   show Y1 C o (x+1) (Dj x ((Va (ff C.length C.flatten).C (co C o).toNat).getD x 0) _) _;rw[h2];exact h1
 have h:=key 256 (paa _);unfold Hg;rw[uE];refine⟨?_,?_,h.ord⟩
 ·rw[<- h.fst]
 ·rw[wg,LB];exact h.F2.symm
theorem AR:∀ (k:Nat)(O:List Nat)(out:List (List ae)),xy C.length O->Sj (ff C.length C.flatten).C k (O.map (co C),out)=((lr C f k (O,out)).1.map (co C),(lr C f k (O,out)).2)
 |0,O,out,_=>rfl
 |k+1,O,out,hO=>by
  cases ho:O[out.length]? with
  |none=>
   have h1:(O.map (co C))[out.length]? =none:=by rw[Eaa,ho];rfl
   rw[Sr h1,MI (r:=(O,out)) ho]
  |some o=>
   have h1:(O.map (co C))[out.length]? =some (co C o):=by rw[Eaa,ho];rfl
   have hoC:=hO.lt o (nab ho)
   obtain⟨q1,q2,q3⟩:=sY Ba I7 W hl hf hK hoC hO;rw[xt (r:=(O.map (co C),out)) h1,zF (r:=(O,out)) ho,q2];have q4:(Hg (ff C.length C.flatten).C (co C o) (O.map (co C))).1=(Rg C f o O 256).1.map (co C):=by rw[q1]
   simp only[q4];exact AR k _ _ q3
theorem zW(hn:0 < C.length):Yo (ff C.length C.flatten).C=(lr C f 64 ([0],[])).2:=by
 have h:=AR Ba I7 W hl hf hK 64 [0] [] ⟨by simp,by simp;exact hn⟩;have h0:([0]:List Nat).map (co C)=[0]:=rfl
 unfold Yo;rw[<- h0,h]
end
attribute [local irreducible] qd
section
variable (call:Sa){C:List (List Int)}(hC:VL C)(e9:∀ r∈C,∀ v∈r,-2<=v){f:Nat->Nat->Bool}(hf:∀ a,f a a=false)
include hC e9 hf
theorem JW(hn:0 < C.length)(o0:ba)(h0:∀ n,qa n o0=some o0):
 qd (fun r=>∃ E O,r=(.exit 0,⟨E,[o0,.tok 1 O false,bB (lr C f 64 ([0],[])).2.isEmpty (XE (lr C f 64 ([0],[])).2),.tok 1 (lr C f 64 ([0],[])).2.length (lr C f 64 ([0],[])).2.isEmpty]⟩)/\E.get 2= .ptr 0 0/\E.get 11= .ptr 2 0/\0 < (lr C f 64 ([0],[])).2.length)
  (ab (ma (oa call Yc) (na 4 [2,7,9,10,11,12])) ua ⟨B4 (.lit 256 (C.map Xi)) (Qk C.length f) (ints [0]) 0,[o0,.tok 1 1 false,bB true (XE []),.tok 1 0 true]⟩):=by
 have L7:=hC.sz
 refine wa (Js (g:=ma (oa call Yc) (na 4 [2,7,9,10,11,12]))
  (fun k t=>∃ (O:List Nat)(out:List (List ae)),t=⟨B4 (.lit 256 (C.map Xi)) (Qk C.length f) (ints O) out.length,[o0,.tok 1 O.length false,bB out.isEmpty (XE out),.tok 1 out.length out.isEmpty]⟩/\k+out.length=64/\xy C.length O/\0 < O.length/\out.length<=O.length/\lr C f 64 ([0],[])=lr C f k (O,out))
  ua 64 _ (by unfold ua;omega) ⟨[0],[],rfl,rfl,⟨by simp,by simp;exact hn⟩,by simp,by simp,rfl⟩ ?_) (fun r h=>h.2)
 rintro k t ⟨O,out,rfl,hk,hO,v8,hle,hs⟩;have hOl:=hO.len
 cases ho:O[out.length]? with
 |some o=>
  have E7:=(iaa.1 ho).1
  obtain⟨k',rfl⟩:∃ k',k=k'+1:=⟨k - 1,by omega⟩;have hoC:=hO.lt o (nab ho)
  obtain⟨q1,⟨t,q2⟩,_⟩:=ID hC hf hoC hO 256 (paa _);refine wa (GG call hC e9 hf o0 h0 hO ho) ?_;rintro r rfl;have hie:(out++[(Rg C f o O 256).2]).isEmpty=false:=by cases out <;> rfl
  have o9:(out++[(Rg C f o O 256).2]).length=out.length+1:=by simp
  refine⟨k',by omega,(Rg C f o O 256).1,out++[(Rg C f o O 256).2],by rw[hie,o9],by rw[o9];omega,q1,?_,?_,?_⟩
  ·rw[q2,raa];omega
  ·rw[o9,q2,raa];omega
  ·rw[hs,zF (r:=(O,out)) ho]
 |none=>
  have Tap:O.length<=out.length:=by
   rcases Qaa out.length O.length with h | h
   ·rw[aaa h] at ho;cases ho
   ·exact h
  rw[MI (r:=(O,out)) ho] at hs;rw[hs];have e1:decide ((out.length:Int) < (O.length:Int))=false:=Ga (by omega);have hlO:(ints O).length=O.length:=by rw[haa]
  have Bal:qd (fun r=>∃ E,r=(.exit 0,⟨E,[o0,.tok 1 O.length false,bB out.isEmpty (XE out),.tok 1 out.length out.isEmpty]⟩)/\E.get 2= .ptr 0 0/\E.get 11= .ptr 2 0)
   (ma (oa call Yc) (na 4 [2,7,9,10,11,12]) ⟨B4 (.lit 256 (C.map Xi)) (Qk C.length f) (ints O) out.length,[o0,.tok 1 O.length false,bB out.isEmpty (XE out),.tok 1 out.length out.isEmpty]⟩):=by
   generalize hQ:(fun r:Ex×St=>_)=Q;generalize (PV.lit 256 (C.map Xi))=L at *;generalize Qk C.length f=M at *
   generalize hos:ints O=os at *;generalize bB out.isEmpty (XE out)=ob at *
   simp -implicitDefEqProofs only[SX,sevalprocAttr,-List.reduceReplicate,Yc,hlO,e1,B4];subst hQ;exact⟨_,rfl,by simp[Tr.aa],by simp[Tr.aa]⟩
  refine wa Bal ?_;rintro r ⟨E,rfl,k2,L9⟩;exact⟨E,O.length,rfl,k2,L9,by show 0 < out.length;omega⟩
end
theorem Kp{S:PV}{ss:List Nb}{es:List PV}(hS:qb S ss es):
 (¬ Xb ss->Ya [.agg [S]]=some (.mc [.agg [.ga],i64 84]))/\
 (Xb ss->¬Gf ss->Ya [.agg [S]]=some (.mc [.agg [.ga],i64 110]))/\
 (Xb ss->Gf ss->jg ss=none->Ya [.agg [S]]=some (.mc [.agg [.ga],i64 130]))/\
 (Xb ss->Gf ss->∀ l,jg ss=some l->Ya [.agg [S]]=some (.mc [.agg [Nk l],i64 0])):=by
 have K8:(AV.pv S).one=true:=by rcases hS.is with⟨h,_⟩ | h <;> rw[h] <;> rfl
 have hp:=HG hS;have st0:∀ (a:PV),Ha [.box [.pv .ga]] 1 (.ptr 0 0) (.pv (.agg [.ga]))=some [.box [.pv .ga]]:=fun a=>rfl;have ld0:pa [.box [.pv .ga]] true 1 (.ptr 0 0)=some (.pv (.agg [.ga])):=rfl;refine⟨?_,?_,?_,?_⟩
 ·intro h
  have h1:=hp.1 h
  have b1:((84:Int) != 0)=true:=by decide
  simp -implicitDefEqProofs only[Ya,SX,sevalprocAttr,-List.reduceReplicate,xf,K8,qe,h1,b1,st0 .ga,ld0]
 ·intro Ba I7
  obtain⟨b,h1,hb⟩:=hp.2 Ba
  have:b=false:=by cases b with | false=>rfl | true=>exact absurd (hb.1 rfl) I7
  subst this;have b1:((0:Int) != 0)=false:=by decide
  simp -implicitDefEqProofs only[Ya,SX,sevalprocAttr,-List.reduceReplicate,xf,K8,qe,h1,b1,st0 .ga,ld0]
 ·intro Ba I7 hau
  obtain⟨b,h1,hb⟩:=hp.2 Ba
  have:=hb.2 I7
  subst this;have hn:qh ss 64 (rh ss,[])=none:=by unfold jg at hau;simpa using hau
  have h2:=(DN hS Ba).2 hn
  have b1:((0:Int) != 0)=false:=by decide
  simp -implicitDefEqProofs only[Ya,SX,sevalprocAttr,-List.reduceReplicate,xf,K8,qe,h1,h2,b1,st0 .ga,ld0]
 ·intro Ba I7 l hau
  obtain⟨b,h1,hb⟩:=hp.2 Ba
  have:=hb.2 I7
  subst this;obtain⟨p,hn,hl⟩:∃ r,qh ss 64 (rh ss,[])=some r/\Yo (ff r.2.length r.2.flatten).C=l:=by unfold jg at hau;simpa using hau
  obtain⟨h2,_⟩:=(DN hS Ba).1 p hn
  obtain⟨W,hlen⟩:=KJ Ba.len Ba.ne hn
  have v8:0 < p.2.length:=by
   have:=(iaa.1 W.first).1
   omega
  obtain⟨f,hK,h3⟩:=sU (W.xg hlen) v8 (W.T5 hlen);have hff:∀ a,f a a=false:=fun a=>by
   cases h:f a a with
   |false=>rfl
   |true=>exact absurd rfl (hK.snd a a h)
  have hfk:=W.known hlen hK
  have htr:=zW Ba I7 W hlen hff hfk v8;have y9:=JW (Da (fun _=>none) 8) (W.xg hlen) (W.ge hlen) hff v8 (.box [.pv .ga]) (fun n=>rfl);rw[htr] at hl;rw[hl] at y9;have b1:((0:Int) != 0)=false:=by decide
  have hi0:ints [0]=[i64 0]:=rfl;have ho0:XE []=[]:=rfl;rw[hi0,ho0] at y9;have key:qd (fun r=>r=PV.mc [.agg [Nk l],i64 0]) (Ya [.agg [S]]):=by
   have hes:Nk l= .lit 1 (XE l):=rfl
   have J7:0 < l.length->l.isEmpty=false:=fun h=>by cases l with | nil=>simp at h | cons=>rfl
   have g1:(0 < 1)=True:=by simp
   have st1:Ha [.box [.pv .ga],.tok 1 1 false,.box [.pv .ga]] 1 (.ptr 2 0) (.pv (.agg [.ga]))=some [.box [.pv .ga],.tok 1 1 false,.box [.pv .ga]]:=rfl;have hc4:Ra (qa 4) [.box [.pv .ga],.tok 1 1 false,bB true [],.tok 1 0 true]=some [.box [.pv .ga],.tok 1 1 false,bB true [],.tok 1 0 true]:=rfl;have o8:∀ a b c d:ba,([a,b,c,d]:List ba).take 4=[a,b,c,d]:=fun a b c d=>rfl
   have d40:(0 < 4)=True:=by simp
   have d41:(1 < 4)=True:=by simp
   have d42:(2 < 4)=True:=by simp
   generalize Q7:(fun r:PV=>_)=QQ;generalize (PV.lit 256 (p.2.map Xi))=L at *;generalize hM:Qk p.2.length f=M at *
   have hMo:(AV.pv M).one=true:=by rw[<- hM];rfl
   generalize p.1.map Af=se at *
   simp -implicitDefEqProofs only[Ya,SP,WP,fa,sevalprocAttr,-List.reduceReplicate,xf,K8,qe,h1,h2,h3,b1,st1,fe,g1,jj,AV.VE,AV.Lq,Db,hc4,o8,d40,d41,d42,na,Ca,AV.cut,za];refine wa y9 ?_;rintro r ⟨E,O,rfl,k2,L9,Cai⟩;rw[J7 Cai];have ld1:∀ (out:List PV)(a b:ba),pa [.box [.pv .ga],a,bB false out,b] true 1 (.ptr 2 0)=some (.agg [.uq 3 false 1 out]):=fun out a b=>rfl;have st2:∀ (out:List PV)(a b c:ba),Ha [.box [.pv .ga],a,b,c] 1 (.ptr 0 0) (.agg [.uq 3 false 1 out])=some [bB false out,a,b,c]:=fun out a b c=>rfl;have ld2:∀ (out:List PV)(a b c:ba),pa [bB false out,a,b,c] true 1 (.ptr 0 0)=some (.agg [.uq 3 false 1 out]):=fun out a b c=>rfl;generalize XE l=out at *;simp -implicitDefEqProofs only[SP,WP,fa,sevalprocAttr,-List.reduceReplicate,k2,L9,ld1,st2,ld2];subst Q7;rw[hes]
  exact Xk key
attribute [local irreducible] qd
structure YG(ss:List Nb):Prop where
 len:ss.length * 32<=140737488355328
 parts:∀ s∈ss,s.parts.length * 24<=140737488355328
def IC(ls:List (List (Int×Int))):List PV:=ls.map Oe
def I2(ls:List (List (Int×Int))):PV:=if ls.isEmpty then .ga else .lit 1 (IC ls)
def vO(s:Nb):PV:= .agg [I2 s.parts,i64 s.first]
def Sq(ss:List Nb):List PV:=ss.map vO
def x6(ss:List Nb):PV:=if ss.isEmpty then .ga else .lit 2 (Sq ss)
abbrev Z4(row:List PV)(i:Int):Tr:=(((Tr.lf.set 4 (.pv (i64 i))).set 3 (.ptr 1 0)).set 2 (.ptr 0 0)).set 1 (.pv (.rp row 0))
abbrev ZH(nl:Bool)(out:List PV)(first:Int):ba:= .box [.uq 2 nl 1 out,.pv (i64 first)]
theorem vI{e:PV}{s:Nb}{P:PV}{ps:List PV}(h:dg e s P ps)(L7:s.parts.length * 24<=140737488355328):Tg [e]=some (vO s):=by
 obtain⟨rfl,hP⟩:=h;have I8:(AV.pv P).one=true:=by rcases hP.is with⟨h,_⟩ | h <;> rw[h] <;> rfl
 have ln:=hP.Tb
 have hc3:∀ nl out n,Ra (qa 3) [.box [.pv .ga,.pv (i64 0)],ZH nl out s.first,.tok 1 n nl]=some [.box [.pv .ga,.pv (i64 0)],ZH nl out s.first,.tok 1 n nl]:=fun nl out n=>rfl;have Cae:∀ a b c d:ba,([a,b,c,d]:List ba).take 3=[a,b,c]:=fun a b c d=>rfl
 have Eai:∀ a b c:ba,([a,b,c]:List ba).take 3=[a,b,c]:=fun a b c=>rfl
 have d0:(0 < 3)=True:=by simp
 have d1:(1 < 3)=True:=by simp
 have D7:qd (fun r=>∃ E nl,r=(.exit 0,⟨E,[.box [.pv .ga,.pv (i64 0)],ZH s.parts.isEmpty (IC s.parts) s.first,.tok 1 s.parts.length nl]⟩)/\E.get 2= .ptr 0 0/\E.get 3= .ptr 1 0)
  (ab (ma (oa (Da (fun _=>none) 8) ie) (na 3 [1,2,3,4])) ua ⟨Z4 [P,i64 s.first] 0,[.box [.pv .ga,.pv (i64 0)],ZH true [] s.first,.tok 1 0 true]⟩):=by
  refine wa (Fb (g:=ma (oa (Da (fun _=>none) 8) ie) (na 3 [1,2,3,4]))
   (fun i t=>t=⟨Z4 [P,i64 s.first] i,[.box [.pv .ga,.pv (i64 0)],ZH (s.parts.take i).isEmpty (IC (s.parts.take i)) s.first,.tok 1 i (s.parts.take i).isEmpty]⟩)
   s.parts.length (by unfold ua;omega) _ rfl ?_ ?_) (fun r h=>h.2)
  ·rintro i t hi rfl
   obtain⟨v,hv,Y8,_⟩:=hP.Pd hi []
   have a1:=hP.Ry hv
   have U7:s.parts.take (i+1)=s.parts.take i++[s.parts[i]]:=by simp
   have hie:(s.parts.take (i+1)).isEmpty=false:=by rw[U7];cases s.parts.take i <;> rfl
   have P7:IC (s.parts.take (i+1))=IC (s.parts.take i)++[Oe s.parts[i]]:=by rw[U7,IC,jac];rfl
   have hcn:(IC (s.parts.take i)).length=i:=by rw[IC,haa,zab];omega
   have hep:Oe s.parts[i]= .lit 2 (de s.parts[i]):=rfl
   rw[hep] at P7;have Q8:∀ st:St,st=⟨Z4 [P,i64 s.first] (i+1:Nat),[.box [.pv .ga,.pv (i64 0)],ZH false (IC (s.parts.take (i+1))) s.first,.tok 1 (i+1) false]⟩->
    LN (fun i t=>t=⟨Z4 [P,i64 s.first] i,[.box [.pv .ga,.pv (i64 0)],ZH (s.parts.take i).isEmpty (IC (s.parts.take i)) s.first,.tok 1 i (s.parts.take i).isEmpty]⟩)
     (fun r=>∃ E nl,r=(.exit 0,⟨E,[.box [.pv .ga,.pv (i64 0)],ZH s.parts.isEmpty (IC s.parts) s.first,.tok 1 s.parts.length nl]⟩)/\E.get 2= .ptr 0 0/\E.get 3= .ptr 1 0) i (.norm,st):=by
    intro st h;show st=_;rw[h,hie]
   generalize LN _ _ i=QQ at Q8 ⊢;have hpz:=Y8.sz
   have hpi:=Y8.is
   have X7:(de s.parts[i]).length=s.parts[i].length:=by simp[de]
   generalize s.parts[i]=l at *
   generalize (s.parts.take i).isEmpty=nl at *
   have vae:Cb [.box [.pv .ga,.pv (i64 0)],ZH nl (IC (s.parts.take i)) s.first,.tok 1 i nl,.tok 2 0 false] false .uq 2 true 16 (.uq 3 false 2 []) (.pv v)=some (.uq 3 false 2 (de l),[.box [.pv .ga,.pv (i64 0)],ZH nl (IC (s.parts.take i)) s.first,.tok 1 i nl,.tok 2 l.length false]):=by
    rcases hpi with⟨h1,h2⟩ | h1
    ·have:l.length=0:=by rw[<- X7,h2];rfl
     rw[h1,h2,this];rfl
    ·rw[h1]
     simp only[Cb,saa,if_false,eab,dab,Lf,if_true,yaa];rw[if_pos ⟨trivial,trivial,rfl,by rw[X7];unfold eb;simp;exact hpz⟩];simp[X7]
   have iab:Cb [.box [.pv .ga,.pv (i64 0)],ZH nl (IC (s.parts.take i)) s.first,.tok 1 i nl,.tok 2 l.length false] false .uq 1 false 24 (.uq 2 nl 1 (IC (s.parts.take i))) (.pv (.lit 1 [.lit 2 (de l)]))=some (.uq 2 false 1 (IC (s.parts.take (i+1))),[.box [.pv .ga,.pv (i64 0)],ZH nl (IC (s.parts.take i)) s.first,.tok 1 (i+1) false,.tok 2 l.length false]):=by
    have:=Mh (A:=[.box [.pv .ga,.pv (i64 0)],ZH nl (IC (s.parts.take i)) s.first,.tok 1 i nl,.tok 2 l.length false]) (id:=2) (n:=i) (sz:=1) (h:= .uq) (nl:=nl) (ag:=false) (bytes:=24) (es:=IC (s.parts.take i)) rfl hcn.symm (by unfold eb;omega) (.lit 2 (de l))
    rw[this,P7];rfl
   have e1:decide ((i:Int) < (s.parts.length:Int))=true:=Ea (by omega);have t2:IntKind.i64.wrap ((i:Int)+1)=((i+1:Nat):Int):=Aa (by omega)
   generalize IC (s.parts.take i)=o at *;generalize IC (s.parts.take (i+1))=o' at *;generalize de l=es at *;have pl:∀ c d,place [.box [.pv .ga,.pv (i64 0)],ZH nl o s.first,c,d] 0 (.ptr 1 0)=some (.ptr 1 0):=fun c d=>rfl;have pl':∀ c,place [.box [.pv .ga,.pv (i64 0)],ZH nl o s.first,c] 0 (.ptr 1 0)=some (.ptr 1 0):=fun c=>rfl;have ld:∀ c,pa [.box [.pv .ga,.pv (i64 0)],ZH nl o s.first,c] false 1 (.ptr 1 0)=some (.uq 2 nl 1 o):=fun c=>rfl;have st:∀ c d,Ha [.box [.pv .ga,.pv (i64 0)],ZH nl o s.first,c,d] 1 (.ptr 1 0) (.uq 2 false 1 o')=some [.box [.pv .ga,.pv (i64 0)],ZH false o' s.first,c,d]:=fun c d=>rfl;have zag:=hc3 false o' (i+1);simp -implicitDefEqProofs only[SP,WP,fa,sevalprocAttr,ie,Uc,oe,ln,e1,t2,a1,Wa,pl,pl',ld,st,vae,iab,zag,Cae,d0,d1,jj,AV.VE,AV.Lq,na,Ca,AV.cut,za,Z4];exact Q8 _ rfl
  ·rintro t rfl
   rw[sab];have e1:decide ((s.parts.length:Int) < (s.parts.length:Int))=false:=Ga (by omega);generalize IC s.parts=o
   generalize s.parts.isEmpty=nl
   generalize hQ:(fun r:Ex×St=>r.1.stop=true/\_)=Q;simp -implicitDefEqProofs only[SP,WP,fa,sevalprocAttr,ie,Uc,oe,ln,e1,Z4];subst hQ;exact⟨rfl,_,nl,rfl,by simp[Tr.aa],by simp[Tr.aa]⟩
 have st0:Ha [.box [.pv .ga,.pv (i64 0)],.box [.pv .ga,.pv (i64 0)]] 2 (.ptr 1 0) (.pv (.agg [.ga,i64 s.first]))=some [.box [.pv .ga,.pv (i64 0)],.box [.pv .ga,.pv (i64 s.first)]]:=rfl;have g1:(0 < 1)=True:=by simp
 have Aag:=hc3 true [] 0;have ld1:∀ nl out c,pa [.box [.pv .ga,.pv (i64 0)],ZH nl out s.first,c] true 2 (.ptr 1 0)=some (.agg [.uq 2 nl 1 out,.pv (i64 s.first)]):=fun nl out c=>rfl;have st1:∀ nl out b c,Ha [.box [.pv .ga,.pv (i64 0)],b,c] 2 (.ptr 0 0) (.agg [.uq 2 nl 1 out,.pv (i64 s.first)])=some [ZH nl out s.first,b,c]:=fun nl out b c=>rfl;have ld2:∀ nl out b c,pa [ZH nl out s.first,b,c] true 2 (.ptr 0 0)=some (.agg [.uq 2 nl 1 out,.pv (i64 s.first)]):=fun nl out b c=>rfl;apply Xk;unfold vO I2;generalize IC s.parts=o at *
 generalize s.parts.isEmpty=em at *
 simp -implicitDefEqProofs only[Tg,SP,WP,fa,sevalprocAttr,Ni,I8,Uc,Lj,oe,ik,st0,fe,g1,Db,Aag,Eai,d0,d1,na,Ca,AV.cut,za];refine wa D7 ?_;rintro r ⟨E,nl,rfl,k2,k3⟩;cases em <;> simp -implicitDefEqProofs only[SP,WP,fa,sevalprocAttr,k2,k3,ld1,st1,ld2]
abbrev u5(row:List PV)(i:Int):Tr:=(((Tr.lf.set 4 (.pv (i64 i))).set 3 (.ptr 1 0)).set 2 (.ptr 0 0)).set 1 (.pv (.rp row 0))
abbrev UL(nl:Bool)(out:List PV):ba:= .box [.uq 2 nl 2 out]
theorem vV{S:PV}{ss:List Nb}{es:List PV}(hS:qb S ss es)(hz:YG ss):cj [.agg [S]]=some (.agg [x6 ss]):=by
 have K8:(AV.pv S).one=true:=by rcases hS.is with⟨h,_⟩ | h <;> rw[h] <;> rfl
 have ln:=hS.Tb
 have nW:=hz.len
 have hc3:∀ nl out n,Ra (qa 3) [.box [.pv .ga],UL nl out,.tok 2 n nl]=some [.box [.pv .ga],UL nl out,.tok 2 n nl]:=fun nl out n=>rfl;have Cae:∀ a b c:ba,([a,b,c]:List ba).take 3=[a,b,c]:=fun a b c=>rfl
 have d0:(0 < 3)=True:=by simp
 have d1:(1 < 3)=True:=by simp
 have D7:qd (fun r=>∃ E nl,r=(.exit 0,⟨E,[.box [.pv .ga],UL ss.isEmpty (Sq ss),.tok 2 ss.length nl]⟩)/\E.get 2= .ptr 0 0/\E.get 3= .ptr 1 0)
  (ab (ma (oa (Da (fun _=>none) 8) Vf) (na 3 [1,2,3,4])) ua ⟨u5 [S] 0,[.box [.pv .ga],UL true [],.tok 2 0 true]⟩):=by
  refine wa (Fb (g:=ma (oa (Da (fun _=>none) 8) Vf) (na 3 [1,2,3,4]))
   (fun i t=>t=⟨u5 [S] i,[.box [.pv .ga],UL (ss.take i).isEmpty (Sq (ss.take i)),.tok 2 i (ss.take i).isEmpty]⟩)
   ss.length (by unfold ua;omega) _ rfl ?_ ?_) (fun r h=>h.2)
  ·rintro i t hi rfl
   obtain⟨P,ps,hP,a1⟩:=hS.Pd hi
   have A9:=vI hP (hz.parts _ (jaa hi));have U7:ss.take (i+1)=ss.take i++[ss[i]]:=by simp
   have hie:(ss.take (i+1)).isEmpty=false:=by rw[U7];cases ss.take i <;> rfl
   have P7:Sq (ss.take (i+1))=Sq (ss.take i)++[vO ss[i]]:=by rw[U7,Sq,jac];rfl
   have hcn:(Sq (ss.take i)).length=i:=by rw[Sq,haa,zab];omega
   have hep:vO ss[i]= .agg [I2 ss[i].parts,i64 ss[i].first]:=rfl
   rw[hep] at P7 A9;have Q8:∀ st:St,st=⟨u5 [S] (i+1:Nat),[.box [.pv .ga],UL false (Sq (ss.take (i+1))),.tok 2 (i+1) false]⟩->
    LN (fun i t=>t=⟨u5 [S] i,[.box [.pv .ga],UL (ss.take i).isEmpty (Sq (ss.take i)),.tok 2 i (ss.take i).isEmpty]⟩)
     (fun r=>∃ E nl,r=(.exit 0,⟨E,[.box [.pv .ga],UL ss.isEmpty (Sq ss),.tok 2 ss.length nl]⟩)/\E.get 2= .ptr 0 0/\E.get 3= .ptr 1 0) i (.norm,st):=by
    intro st h;show st=_;rw[h,hie]
   generalize LN _ _ i=QQ at Q8 ⊢;have N8:(AV.pv (I2 ss[i].parts)).one=true:=by unfold I2;split <;> rfl
   generalize I2 ss[i].parts=pv at *
   generalize ss[i].first=fi at *
   generalize (ss.take i).isEmpty=nl at *
   have iab:Cb [.box [.pv .ga],UL nl (Sq (ss.take i)),.tok 2 i nl] false .uq 2 true 32 (.uq 2 nl 2 (Sq (ss.take i))) (.pv (.lit 2 [.agg [pv,i64 fi]]))=some (.uq 2 false 2 (Sq (ss.take (i+1))),[.box [.pv .ga],UL nl (Sq (ss.take i)),.tok 2 (i+1) false]):=by
    have:=Mh (A:=[.box [.pv .ga],UL nl (Sq (ss.take i)),.tok 2 i nl]) (id:=2) (n:=i) (sz:=2) (h:= .uq) (nl:=nl) (ag:=true) (bytes:=32) (es:=Sq (ss.take i)) rfl hcn.symm (by unfold eb;omega) (.agg [pv,i64 fi])
    rw[this,P7];rfl
   have e1:decide ((i:Int) < (ss.length:Int))=true:=Ea (by omega);have t2:IntKind.i64.wrap ((i:Int)+1)=((i+1:Nat):Int):=Aa (by omega)
   generalize Sq (ss.take i)=o at *;generalize Sq (ss.take (i+1))=o' at *;have pl:∀ c,place [.box [.pv .ga],UL nl o,c] 0 (.ptr 1 0)=some (.ptr 1 0):=fun c=>rfl;have ld:∀ c,pa [.box [.pv .ga],UL nl o,c] false 1 (.ptr 1 0)=some (.uq 2 nl 2 o):=fun c=>rfl;have st:∀ c,Ha [.box [.pv .ga],UL nl o,c] 1 (.ptr 1 0) (.uq 2 false 2 o')=some [.box [.pv .ga],UL false o',c]:=fun c=>rfl;have zag:=hc3 false o' (i+1);simp -implicitDefEqProofs only[SP,WP,fa,sevalprocAttr,Vf,fc,Wa,pg,ln,e1,t2,a1,A9,pl,ld,st,iab,N8,zag,Cae,d0,d1,jj,AV.VE,AV.Lq,na,Ca,AV.cut,za,u5];exact Q8 _ rfl
  ·rintro t rfl
   rw[sab];have e1:decide ((ss.length:Int) < (ss.length:Int))=false:=Ga (by omega);generalize Sq ss=o;generalize ss.isEmpty=nl
   generalize hQ:(fun r:Ex×St=>r.1.stop=true/\_)=Q;simp -implicitDefEqProofs only[SP,WP,fa,sevalprocAttr,Vf,fc,Wa,ln,e1,u5];subst hQ;exact⟨rfl,_,nl,rfl,by simp[Tr.aa],by simp[Tr.aa]⟩
 have st0:Ha [.box [.pv .ga],.box [.pv .ga]] 1 (.ptr 1 0) (.pv (.agg [.ga]))=some [.box [.pv .ga],.box [.pv .ga]]:=rfl;have g1:(0 < 2)=True:=by simp
 have Aag:=hc3 true [] 0;have ld1:∀ nl out c,pa [.box [.pv .ga],UL nl out,c] true 1 (.ptr 1 0)=some (.agg [.uq 2 nl 2 out]):=fun nl out c=>rfl;have st1:∀ nl out b c,Ha [.box [.pv .ga],b,c] 1 (.ptr 0 0) (.agg [.uq 2 nl 2 out])=some [UL nl out,b,c]:=fun nl out b c=>rfl;have ld2:∀ nl out b c,pa [UL nl out,b,c] true 1 (.ptr 0 0)=some (.agg [.uq 2 nl 2 out]):=fun nl out b c=>rfl;apply Xk;unfold x6;generalize Sq ss=o at *;generalize ss.isEmpty=em at *
 simp -implicitDefEqProofs only[cj,SP,WP,fa,sevalprocAttr,Wk,K8,fc,Wa,st0,fe,g1,Db,Aag,Cae,d0,d1,na,Ca,AV.cut,za];refine wa D7 ?_;rintro r ⟨E,nl,rfl,k2,k3⟩;cases em <;> simp -implicitDefEqProofs only[SP,WP,fa,sevalprocAttr,k2,k3,ld1,st1,ld2]
theorem MX{ls:List (List (Int×Int))}(hl:ls.length<=maxLen)(h:∀ l∈ls,l.length * 16<=140737488355328):zf (I2 ls) ls (IC ls):=by
 refine⟨?_,by simp[IC],?_,hl⟩
 ·cases ls with
  |nil=>exact .inl ⟨rfl,rfl⟩
  |cons a r=>exact .inr rfl
 ·intro k v l hv hl
  rw[IC,Eaa,hl] at hv;simp at hv;subst hv;exact⟨.inr rfl,h l (nab hl)⟩
theorem oQ{S:PV}{ss:List Nb}{es:List PV}(hS:qb S ss es):qb (x6 ss) ss (Sq ss):=by
 refine⟨?_,by simp[Sq],?_,hS.sz⟩
 ·cases ss with
  |nil=>exact .inl ⟨rfl,rfl⟩
  |cons a r=>exact .inr rfl
 ·intro k e s he hs
  rw[Sq,Eaa,hs] at he;simp at he;subst he;obtain⟨i,hi⟩:=qab (nab hs);obtain⟨hk,hks⟩:=iaa.1 hs
  obtain⟨e',P,ps,_,_,hP⟩:=hS.get hk
  rw[hks] at hP;exact⟨I2 s.parts,IC s.parts,rfl,MX hP.parts.sz (hS.G6 s (nab hs))⟩
attribute [local irreducible] qd
open Go.AM
def Pg(l:List (List ae)):Nat->Int->List Int->Int×Int
 |i,_,[]=>(i,2)
 |i,st,b::r=>if (Nd l st b).2=false then ((i:Int),3) else if (Nd l st b).1= -1 then (((i+1:Nat):Int),1) else Pg l (i+1) (Nd l st b).1 r
section
variable (call:Sa)(A B:PV)(l:List (List ae))(hA:Dp A l)(bs:List Int)(hB:Vh 1 B (bs.map u8))(hb:∀ b∈bs,0<=b/\b<=255)(hw:bs.length<=maxLen)
include hA hB hb hw
end
section
variable (A:PV)(l:List (List ae))(hA:Dp A l)
include hA
end
section
variable (call:Sa)(av bs:List PV)(i:Nat)(a b:List ae)(V W:PV)(hia:i < av.length)(hib:i < bs.length)(hV:av[i]? =some V)(hW:bs[i]? =some W)(hVL:Vh 3 V (a.map TH))(hWL:Vh 3 W (b.map TH))(hw:a.length<=maxLen)
include hia hV hVL
include hib hW hWL hw
end
section
variable (A B:PV)(l m:List (List ae))(hA:Dp A l)(hB:Dp B m)
include hA hB
end
theorem LD(row:List Int):∀ (xs:List Nat)(l:List ae),(Qe row xs l).length<=l.length+xs.length
 | [],l=>by simp[Qe]
 |x::xs,l=>by rw[Qe];have h1:=LD row xs (ng x (row.getD x 0) l);have h2:=xJ x (row.getD x 0) l;simp only[Oaa];omega
theorem eQ(row:List Int):(wg row).length<=256:=by
 have:=LD row (List.range 256) [];simpa[wg] using this
theorem KH(C:List Int):∀ (k:Nat)(r:List Int×List (List ae)),(Sj C k r).2.length<=r.2.length+k/\∀ e∈(Sj C k r).2,e∈r.2\/e.length<=256
 |0,r=>⟨by simp[Sj],fun e he=> .inl he⟩
 |k+1,r=>by
  cases ho:r.1[r.2.length]? with
  |none=>rw[Sr ho];exact⟨by omega,fun e he=> .inl he⟩
  |some o=>
   rw[xt ho];obtain⟨h1,h2⟩:=KH C k ((Hg C o r.1).1,r.2++[wg (Hg C o r.1).2]);simp only[raa,dad] at h1;refine⟨by omega,fun e he=> ?_⟩;rcases h2 e he with h3 | h3
   ·simp only[Jaa,Hab] at h3
    rcases h3 with h3 | h3
    ·exact .inl h3
    ·refine .inr ?_;rw[h3];exact eQ _
   ·exact .inr h3
theorem PS(C:List Int)(k:Nat)(o:List Int):(Sj C k (o,[])).2.length<=k/\∀ e∈(Sj C k (o,[])).2,e.length<=256:=by
 have h:=KH C k (o,[]);generalize Sj C k (o,[])=r at h ⊢;refine⟨by simpa using h.1,fun e he=> ?_⟩;rcases h.2 e he with h | h
 ·cases h
 ·exact h
set_option maxRecDepth 8000 in
theorem kV(C:List Int):(Yo C).length<=64/\∀ e∈Yo C,e.length<=256:=PS C 64 [0]
theorem GD{ss:List Nb}{l:List (List ae)}(h:jg ss=some l):l.length<=64/\∀ e∈l,e.length<=256:=by
 unfold jg at h;rw[daa] at h;obtain⟨r,_,rfl⟩:=h;exact kV _
theorem tO(e:List ae):Vh 3 (Ee e) (e.map TH):=by
 unfold Ee;cases e with
 |nil=>exact .inl ⟨rfl,rfl⟩
 |cons a r=>exact .inr rfl
theorem dG{l:List (List ae)}(h1:l.length<=64)(h2:∀ e∈l,e.length<=256):Dp (Nk l) l:=by
 refine⟨⟨l.map Ee,.inr rfl,by simp,?_⟩,by omega,fun e he=>by have:=h2 e he;omega⟩;intro i v e hv he;rw[Eaa,he] at hv;simp at hv;subst hv;exact tO e
theorem EC:Dp .ga []:=⟨⟨[],.inl ⟨rfl,rfl⟩,rfl,by simp⟩,by simp,by simp⟩
theorem rQ(ss:List Nb):∃ (V:PV)(l:List (List ae))(n:Int),Dp V l/\(n=0↔∃ l',jg ss=some l'/\Xb ss/\Gf ss/\V=Nk l'/\l=l')/\(n≠0->V= .ga)/\
 (∀ (A:PV)(ea:List PV),qb A ss ea->Ec [.agg [A]]=some (.mc [.agg [V],i64 n]))/\(∀ (A:PV)(ea:List PV),qb A ss ea->Ya [.agg [A]]=some (.mc [.agg [V],i64 n])):=by
 by_cases h1:Xb ss
 ·by_cases h2:Gf ss
  ·cases h3:jg ss with
   |none=>exact⟨.ga,[],130,EC,⟨fun h=>(by cases h),fun ⟨_,h,_⟩=>(by cases h)⟩,fun _=>rfl,fun A ea h=>(nj h).2.2.1 h1 h2 h3,fun A ea h=>(Kp h).2.2.1 h1 h2 h3⟩
   |some l=>obtain⟨k1,k2⟩:=GD h3;exact⟨Nk l,l,0,dG k1 k2,⟨fun _=>⟨l,rfl,h1,h2,rfl,rfl⟩,fun _=>rfl⟩,fun h=>absurd rfl h,fun A ea h=>(nj h).2.2.2 h1 h2 l h3,fun A ea h=>(Kp h).2.2.2 h1 h2 l h3⟩
  ·exact⟨.ga,[],110,EC,⟨fun h=>(by cases h),fun ⟨_,_,_,h,_⟩=>absurd h h2⟩,fun _=>rfl,fun A ea h=>(nj h).2.1 h1 h2,fun A ea h=>(Kp h).2.1 h1 h2⟩
 ·exact⟨.ga,[],84,EC,⟨fun h=>(by cases h),fun ⟨_,_,h,_⟩=>absurd h h1⟩,fun _=>rfl,fun A ea h=>(nj h).1 h1,fun A ea h=>(Kp h).1 h1⟩
def bp(es:List ae):PV:= .agg ((List.range 256).map fun b=> .int .i8 (Dl es b))
theorem ND{α:Type}{cs vs:List α}(h:vs.length=cs.length):fa cs 0 vs=vs:=by
 apply Iab;intro p;rw[So.Nh]
 by_cases hp:p < cs.length
 ·rw[dif_pos ⟨by omega,by omega,hp⟩];simp
 ·rw[dif_neg (by omega),Raa (by omega),Raa (by omega)]
theorem setRow_self{α:Type}(cs:List α):fa cs 0 cs=cs:=ND rfl
theorem QR:ba.box ((List.replicate 256 (PV.int .i8 0)).map .pv)=b8 fun _=>0:=by
 unfold b8 cellsOf;rw[List.map_const',eac,kad]
theorem uZ(n:Nat):(List.replicate n (AV.pv (.int .i8 0))).all AV.one=true:=by
 rw[Taa];intro x hx;rw[Ead hx];rfl
def Xx(o0 o1 o4 o5:ba)(c0 c1 c3 c4 c5:AV)(nl:Bool)(es:List PV):List ba:=[o0,o1,.box [c0,c1,.uq 3 nl 256 es,c3,c4,c5],.tok 256 es.length nl,o4,o5]
section
variable {call:Sa}{o0 o1 o4 o5:ba}{c0 c1 c3 c4 c5:AV}
 (hg:∀ nl es,Wd (Xx o0 o1 o4 o5 c0 c1 c3 c4 c5 nl es))
include hg
theorem tW{E:Tr}{V:PV}{l:List (List ae)}{i:Nat}{nl:Bool}{es:List PV}(hV:Vh 1 V (l.map Ee))(hl:l.length<=64)(hle:∀ e∈l,e.length<=256)(Ba:∀ e∈l,yj e)(hi:i < l.length)(he:es.length=i)
 (h8:E.get 8= .ptr 2 0) (h101:E.get 101= .pv V) (h102:E.get 102= .pv (i64 l.length)) (h103:E.get 103= .pv (i64 i)):
 qd (fun r=>∃ E',r=(.norm,⟨E',Xx o0 o1 o4 o5 c0 c1 c3 c4 c5 false (es++[bp l[i]])++[b8 (Dl l[i])]⟩)/\Xe [8,101,102] E E'/\E'.get 103= .pv (i64 (i+1:Nat)))
  (oa call Si ⟨E,Xx o0 o1 o4 o5 c0 c1 c3 c4 c5 nl es⟩):=by
 have hV1:=hV.lit (i:=i) (by simpa using hi)
 have hml:=jaa hi;have hie:=Ba _ hml;have Gai:=hle _ hml;have hA:=hg nl es;have hAl:(Xx o0 o1 o4 o5 c0 c1 c3 c4 c5 nl es).length=6:=rfl
 have e1:decide ((i:Int) < (l.length:Int))=true:=Ea (by omega);have t1:IntKind.i64.wrap ((i:Int)+1)=((i+1:Nat):Int):=sg (by omega)
 have hvc:(Ee l[i]).cells=[Ee l[i]]:=by unfold Ee;split <;> rfl
 have a1:ta (Xx o0 o1 o4 o5 c0 c1 c3 c4 c5 nl es) 1 (.pv V) (i:Int)=some (.pv (.rp [Ee l[i]] 0)):=by rw[hV1];simp only[ta];rw[if_pos ⟨trivial,by unfold Ia;rw[haa];omega⟩,Daa,Eaa,aaa hi,Haa,Haa,hvc]
 have hL:=tO l[i];have lL:=hL.len
 rw[haa] at lL;have Eal:=fun (E2:Tr)(q8:E2.get 8= .ptr 2 0)(q12:E2.get 12= .pv (Ee l[i]))(q13:E2.get 13= .ptr 6 0)(Mab:E2.get 101= .pv V)(Nab:E2.get 102= .pv (i64 l.length))(Oab:E2.get 103= .pv (i64 i))(Dag:E2.get 108= .pv (i64 0))=>
  EW (call:=call) hA (g0:=fun _=>0) (tb:=2) (by rw[hAl];omega) q8 q12 q13 Mab Nab Oab Dag
 have Fal:=fun (E2:Tr)(q8:E2.get 8= .ptr 2 0)(q13:E2.get 13= .ptr 6 0)(Mab:E2.get 101= .pv V)(Nab:E2.get 102= .pv (i64 l.length))(Oab:E2.get 103= .pv (i64 i))(Pab:E2.get 114= .pv (Ee l[i]))(Qab:E2.get 115= .pv (i64 l[i].length))(gab:E2.get 116= .pv (i64 0))=>
  AX (call:=call) hA (tb:=2) hie hL Gai (by rw[hAl];omega) q8 q13 Mab Nab Oab Pab Qab gab
 generalize l[i]=ed at *;have s0:Ha (Xx o0 o1 o4 o5 c0 c1 c3 c4 c5 nl es++[b8 fun _=>0]) 256 (.ptr 6 0) (.pv (.agg (List.replicate 256 (PV.int .i8 0))))=some (Xx o0 o1 o4 o5 c0 c1 c3 c4 c5 nl es++[b8 fun _=>0]):=by have hq:=Fk (Xx o0 o1 o4 o5 c0 c1 c3 c4 c5 nl es) (b8 fun _=>0);have hs:=Up (Xx o0 o1 o4 o5 c0 c1 c3 c4 c5 nl es) (b8 fun _=>0) (b8 fun _=>0);rw[hAl] at hq hs;simp only[Ha,hq,AV.cells,PV.cells,haa,Xab,kad];rw[if_pos ⟨trivial,uZ 256⟩];rw[<- QR,kad] at hs ⊢;simp only[Xab];rw[if_pos (by omega),setRow_self,hs]
 generalize hA1:Xx o0 o1 o4 o5 c0 c1 c3 c4 c5 nl es++[b8 fun _=>0]=A1 at *;have hbz:Xx o0 o1 o4 o5 c0 c1 c3 c4 c5 nl es++[ba.box ((List.replicate 256 (PV.int .i8 0)).map .pv)]=A1:=by rw[QR];exact hA1
 have s8:=So.Qf (List.replicate 256 (PV.int .i8 0))
 rw[kad] at s8 hbz;generalize hA0:Xx o0 o1 o4 o5 c0 c1 c3 c4 c5 nl es=A0 at *;generalize hQ:(fun r:Ex×St=>∃ E',r=_/\_)=Q;simp -implicitDefEqProofs only[SX,sevalprocAttr,-List.reduceReplicate,Si,h8,h101,h102,h103,e1,a1,Wa,s8,hAl,hbz,s0,kad];generalize W7:(Tr.set _ 108 _:Tr)=E2;have k2:Xe [8,101,102,103] E E2:=by
  rw[<- W7]
  repeat refine Xe.set ?_ rfl
  exact Xe.refl _ _
 have q12:E2.get 12= .pv (Ee ed):=by rw[<- W7];simp[Tr.aa,-List.reduceReplicate]
 have q13:E2.get 13= .ptr 6 0:=by rw[<- W7];simp[Tr.aa,-List.reduceReplicate]
 have Dag:E2.get 108= .pv (i64 0):=by rw[<- W7];simp[Tr.aa,-List.reduceReplicate]
 refine wa (Eal E2 ((k2 8 (by simp)).trans h8) q12 q13 ((k2 101 (by simp)).trans h101) ((k2 102 (by simp)).trans h102) ((k2 103 (by simp)).trans h103) Dag) ?_;rintro r ⟨_,E3,rfl,k3⟩;have k3:Xe [8,12,13,101,102,103] E2 E3:=k3;have z12:=(k3 12 (by simp)).trans q12
 simp -implicitDefEqProofs only[SX,sevalprocAttr,-List.reduceReplicate,z12,lL];generalize Iad:(Tr.set _ 116 _:Tr)=E4;have k4:Xe [8,101,102,103] E E4:=by
  rw[<- Iad]
  repeat refine Xe.set ?_ rfl
  exact k2.trans (Xe.sub k3 rfl)
 have q13:E4.get 13= .ptr 6 0:=by rw[<- Iad];simp[Tr.aa];exact (k3 13 (by simp)).trans q13
 have Pab:E4.get 114= .pv (Ee ed):=by rw[<- Iad];simp[Tr.aa]
 have Qab:E4.get 115= .pv (i64 ed.length):=by rw[<- Iad];simp[Tr.aa]
 have gab:E4.get 116= .pv (i64 0):=by rw[<- Iad];simp[Tr.aa]
 refine wa (Fal E4 ((k4 8 (by simp)).trans h8) q13 ((k4 101 (by simp)).trans h101) ((k4 102 (by simp)).trans h102) ((k4 103 (by simp)).trans h103) Pab Qab gab) ?_;rintro r ⟨_,E5,rfl,k5⟩;have k5:Xe [8,13,101,102,103] E4 E5:=k5;have k5':Xe [8,101,102,103] E E5:=k4.trans (Xe.sub k5 rfl)
 have z8:=(k5' 8 (by simp)).trans h8
 have Gal:=(k5' 103 (by simp)).trans h103
 have z13:=(k5 13 (by simp)).trans q13
 have p2:∀ d,place (A0++[b8 (Dl ed)]) d (.ptr 2 0)=some (.ptr 2 (0+d)):=fun d=>Vg (by rw[<- hA0];rfl) d 0;have l2:pa (A0++[b8 (Dl ed)]) false 1 (.ptr 2 2)=some (.uq 3 nl 256 es):=by rw[<- hA0];rfl
 have l13:pa (A0++[b8 (Dl ed)]) true 256 (.ptr 6 0)=some (.pv (bp ed)):=by
  have hgt:(A0++[b8 (Dl ed)])[6]? =some (b8 (Dl ed)):=by rw[<- hA0];rfl
  have hl:(cellsOf 256 fun b=>AV.pv (.int .i8 (Dl ed b))).length=256:=Yg _ _
  have:cellsOf 256 (fun b=>AV.pv (.int .i8 (Dl ed b)))=((List.range 256).map fun b=>PV.int .i8 (Dl ed b)).map .pv:=by rw[cellsOf,jad];rfl
  rw[pa,hgt];show Kh true 256 (cellsOf 256 fun b=>AV.pv (.int .i8 (Dl ed b))) 0=_;rw[Kh,if_pos rfl,if_pos (by rw[hl];exact paa _),xac,Saa (by rw[hl];exact paa _),this,Hu,So.Qf];rfl
 have iab:Cb (A0++[b8 (Dl ed)]) false .uq 256 true 256 (.uq 3 nl 256 es) (.pv (.lit 256 [bp ed]))=some (.uq 3 false 256 (es++[bp ed]),[o0,o1,.box [c0,c1,.uq 3 nl 256 es,c3,c4,c5],.tok 256 (es.length+1) false,o4,o5,b8 (Dl ed)]):=by rw[<- hA0];simp only[Cb,Xx,Lf,bab,Yaa,eab,dab,if_true,yaa,Oaa,pab];rw[kaa (by simp)];rw[if_pos ⟨trivial,trivial,trivial,by unfold eb;omega⟩];simp
 have p3:∀ d,place [o0,o1,.box [c0,c1,.uq 3 nl 256 es,c3,c4,c5],.tok 256 (es.length+1) false,o4,o5,b8 (Dl ed)] d (.ptr 2 0)=some (.ptr 2 (0+d)):=fun d=>Vg rfl d 0;have s3:Ha [o0,o1,.box [c0,c1,.uq 3 nl 256 es,c3,c4,c5],.tok 256 (es.length+1) false,o4,o5,b8 (Dl ed)] 1 (.ptr 2 2) (.uq 3 false 256 (es++[bp ed]))=some (Xx o0 o1 o4 o5 c0 c1 c3 c4 c5 false (es++[bp ed])++[b8 (Dl ed)]):=by
  have:(es++[bp ed]).length=es.length+1:=by simp
  unfold Xx;rw[this];rfl
 obtain⟨N,hN⟩:∃ N,N=(List.range 256).map fun b=>PV.int .i8 (Dl ed b):=⟨_,rfl⟩
 have hNl:N.length=256:=by rw[hN,haa,eac]
 have hNo:(N.map AV.pv).all AV.one=true:=by rw[hN,Taa];intro x hx;rw[fab] at hx;obtain⟨y,hy,rfl⟩:=hx;rw[fab] at hy;obtain⟨z,_,rfl⟩:=hy;rfl
 have hNP:bp ed= .agg N:=by rw[hN];rfl
 rw[hNP] at l13 iab s3 hQ;have m0:(PV.agg N).cells=N:=rfl
 have m1:fa (List.map AV.pv (List.replicate 256 (PV.int .i8 0))++[]) 0 (N.map .pv)=N.map .pv:=ND (by rw[haa,raa,haa,Xab,hNl];rfl)
 have m2:(N.map AV.pv).length=256:=by rw[haa,hNl]
 have m3:=So.Qf N
 have m5:(256<=(List.map AV.pv (List.replicate 256 (PV.int .i8 0))++[]).length)=True:=Iaa (by rw[raa,haa,Xab];exact Nat.le_add_right _ _);have m6:List.take 256 N=N:=Saa (by omega)
 clear hN hNP;simp -implicitDefEqProofs only[SP,WP,fa,sevalprocAttr,-List.reduceReplicate,z8,Gal,z13,p2,l2,l13,iab,p3,s3,t1,m0,m1,m2,m3,m5,m6,hNo];subst hQ;refine⟨_,rfl,?_,by simp[Tr.aa]⟩
 repeat refine Xe.set ?_ rfl
 exact Xe.sub k5' rfl
end
theorem xw{p:Int×Int}(h0:0<=p.1)(h1:p.1<=p.2):((eg 0 p).length:Int)=p.2 - p.1+1:=by
 rw[mM h0 h1,haa,eac];omega
theorem RB{p:Int×Int}(h0:0<=p.1)(h1:p.1<=p.2){k:Nat}(hk:(k:Int) < p.2 - p.1+1):(eg 0 p)[k]? =some (p.1+k):=by
 rw[mM h0 h1,Eaa,Xac (by omega)];rfl
theorem PB{top:Int}:∀ {l:List (Int×Int)}{last:Int}(n:Int),Pa top last l=true->ib n l=n+(Ml l).length
 | [],_,n,_=>by simp[ib,Ml]
 |p::l,last,n,h=>by
  obtain⟨h1,h2,h3,h4,h5⟩:=Vc h;replace h1:0<=p.1:=by omega
  replace h2:p.1<=p.2:=by omega
  have hl:=xw h1 h2;rw[ib,PB _ h5,Ml,raa];omega
theorem Yu{top:Int}:∀ {l:List (Int×Int)}{last:Int}{n x:Int}{k:Nat},Pa top last l=true->(Ml l)[k]? =some x->Ld x n l=(n+k,true)/\0<=x/\x<=top/\last+1 < x
 | [],_,n,x,k,_,hk=>by simp[Ml] at hk
 |p::l,last,n,x,k,h,hk=>by
  obtain⟨h1,h2,h3,h4,h5⟩:=Vc h;replace h1:0<=p.1:=by omega
  replace h2:p.1<=p.2:=by omega
  have hl:=xw h1 h2;rw[Ml] at hk;rcases Qaa k (eg 0 p).length with E7 | e9
  ·rw[eaa E7,RB h1 h2 (by omega)] at hk
   injection hk with hk
   subst hk;rw[Ld,kaa (by omega),if_pos (by omega)];exact⟨by rw[oaa];exact⟨by omega,rfl⟩,by omega,by omega,by omega⟩
  ·rw[Kaa e9] at hk
   obtain⟨g1,g2,g3,g4⟩:=Yu (n:=n+(p.2 - p.1+1)) h5 hk;rw[Ld,kaa (by omega),kaa (by omega),g1];exact⟨by rw[oaa];exact⟨by omega,rfl⟩,g2,g3,by omega⟩
theorem Sv{top:Int}:∀ {l:List (Int×Int)}{last:Int}{n x:Int},Pa top last l=true->(Ld x n l).2=true->∃ k:Nat,(Ml l)[k]? =some x/\(Ld x n l).1=n+k
 | [],_,n,x,_,hk=>by simp[Ld] at hk
 |p::l,last,n,x,h,hk=>by
  obtain⟨h1,h2,h3,h4,h5⟩:=Vc h;replace h1:0<=p.1:=by omega
  replace h2:p.1<=p.2:=by omega
  have hl:=xw h1 h2;rw[Ld] at hk ⊢
  by_cases c1:x < p.1
  ·rw[if_pos c1] at hk;cases hk
  ·rw[kaa c1] at hk ⊢
   by_cases c2:x<=p.2
   ·rw[if_pos c2]
    refine⟨(x - p.1).toNat,?_,by show n+x - p.1=_;omega⟩;rw[Ml,eaa (by omega),RB h1 h2 (by omega)]
    congr 1;omega
   ·rw[kaa c2] at hk ⊢
    obtain⟨k,g1,g2⟩:=Sv h5 hk;refine⟨(eg 0 p).length+k,?_,by rw[g2];omega⟩;rw[Ml,Kaa (by omega),Hac];exact g1
theorem cJ:∀ (l:List (Int×Int)),Ra JJ (de l)=some l
 | []=>rfl
 |p::l=>by
  show (JJ (pr p)).bind _=_
  have:JJ (pr p)=some p:=rfl;rw[this,yaa];show ((Ra JJ (de l)).bind fun bs=>some (p::bs))=_;rw[cJ l];rfl
theorem MT{v:PV}{l:List (Int×Int)}(h:Vh 2 v (de l)):tH v=some l:=by
 rcases h with⟨rfl,h⟩ | rfl
 ·cases l with
  |nil=>rfl
  |cons p l=>cases h
 ·exact cJ l
theorem PG{v:PV}{l:List (Int×Int)}(h:Vh 2 v (de l))(hv:Pa 255 (-2) l=true)(hlen:l.length<=4611686018427387904):
 Sl [.rp [v] 0,.rp [i64 0] 0]=some ((Ml l).map fun x=>[i64 x]):=by
 have hsm:l.all OL=true:=by
  have:∀ (l:List (Int×Int))(last:Int),Pa 255 last l=true->l.all OL=true:=by
   intro l
   induction l with
   |nil=>intro _ _;rfl
   |cons p l ih=>intro last h;obtain⟨h1,h2,h3,h4,h5⟩:=Vc h;rw[wac,ih _ h5,aae];exact decide_eq_true (by omega)
  exact this l _ hv
 simp only[Sl,MT h,yaa,hsm,oab];rw[if_pos (decide_eq_true (by omega)),Y0]
theorem kI{v:PV}{l:List (Int×Int)}(hv:gq v l)(hp:Ad l):∃ u,Vh 2 u (de l)/\∀ H,Da Ah 8 39 [.pv v,.pv (i64 0)] H=some (.Ol 35 [.pv (.rp [u] 0),.pv (.rp [i64 0] 0)],H):=by
 obtain⟨u,q1,q2⟩:=jA v l hv.is hv.sz
 rw[CK hp.2] at q2;refine⟨u,q2,fun H=> ?_⟩;have hu1:(AV.pv u).one=true:=by rcases q2 with⟨h,_⟩ | h <;> rw[h] <;> rfl
 have huc:(AV.pv u).cells=[.pv u]:=by rcases q2 with⟨h,_⟩ | h <;> rw[h] <;> rfl
 have c38:Ah 38=some Vv:=rfl;rw[ai Ah 7 39 _ H (f:=gn) rfl];simp -implicitDefEqProofs only[SX,sevalprocAttr,gn,Vv,q1,c38,hu1,huc]
def B5(v:AV)(H:List ba)(es:List PV):Prop:=(es=[]/\v= .pv .ga)\/(∃ tk,es≠[]/\v= .uq tk false 1 es/\H[tk]? =some (.tok 1 es.length false))
theorem I0{x:Int}(h0:0<=x)(h1:x<=255):IntKind.u8.wrap x=x:=by
 unfold IntKind.wrap
 simp[IntKind.signed,IntKind.bits];omega
theorem QW{x:Int}(h0:0<=x)(h1:x<=65535):IntKind.u16.wrap x=x:=by
 unfold IntKind.wrap
 simp[IntKind.signed,IntKind.bits];omega
theorem lX(call:Sa){e:Tr}{H:List ba}{bx oid m off fl:Nat}{g:Nat->AV}{x:Int}{es:List PV}(h6:e.get 6= .ptr bx 0)(h7:e.get 7= .pv (i64 x))(hb:H[bx]? =some (.box [.Hc oid m off]))(ho:H[oid]? =some (.seq 258 true (cellsOf m g) fl false))
 (hoff:off+258<=m) (hx0:0<=x) (hx1:x<=255) (hB:B5 (g off) H es) (hlen:es.length<=255):
 ∃ s' x8 v,x8<=m/\oa call om ⟨e,H⟩=some (.norm,s')/\s'.H[bx]? =some (.box [.Hc oid m off])/\
  s'.H[oid]? =some (.seq 258 true (cellsOf m (Ux (Ux g off v) (off+1+x.toNat) (.pv (.int .u16 (es.length+1))))) x8 false)/\B5 v s'.H (es++[.int .u8 x])/\∀ (j:Nat) c,H[j]? =some (.box c)->s'.H[j]? =some (.box c):=by
 have hbo:bx≠oid:=by intro e;subst e;rw[hb] at ho;cases ho
 have wx:=I0 hx0 hx1;have l6:pa H false 1 (.ptr bx 0)=some (.Hc oid m off):=by simp[pa,hb,Kh]
 have lo:=CF (off:=off) ho rfl (by omega);have po:∀ d,place H d (.Hc oid m off)=some (.Hc oid m (off+d)):=fun d=>Jv ho rfl;have app:∃ v H1,Cb H false .uq 1 false 1 (g off) (.pv (.lit 1 [.int .u8 x]))=some (v,H1)/\B5 v H1 (es++[.int .u8 x])/\H1[bx]? =some (.box [.Hc oid m off])/\H1[oid]? =some (.seq 258 true (cellsOf m g) fl false)/\v.cells=[v]/\v.one=true/\(∀ K,Tb K 0 v=some (es.length+1))/\∀ (j:Nat) c,H[j]? =some (.box c)->H1[j]? =some (.box c):=by
  rcases hB with⟨rfl,hg⟩ | ⟨tk,J7,hg,o8⟩
  ·refine⟨.uq H.length false 1 [.int .u8 x],H++[.tok 1 1 false],by rw[hg];simp[Cb,Lf,br],.inr ⟨H.length,by simp,rfl,by simp⟩,?_,?_,rfl,rfl,fun _=>rfl,fun j c hj=>by rw[getElem?_push (getElem?_lt hj)];exact hj⟩
   ·rw[getElem?_push (getElem?_lt hb)];exact hb
   ·rw[getElem?_push (getElem?_lt ho)];exact ho
  ·have h1:tk≠bx:=by intro e;subst e;rw[hb] at o8;cases o8
   have h2:tk≠oid:=by intro e;subst e;rw[ho] at o8;cases o8
   refine⟨.uq tk false 1 (es++[.int .u8 x]),H.set tk (.tok 1 (es.length+1) false),?_,.inr ⟨tk,by simp,rfl,by rw[Maa (getElem?_lt o8)];simp⟩,?_,?_,rfl,rfl,fun _=>by simp[Tb],fun j c hj=>by rw[Gaa (fun e=>by subst e;rw[o8] at hj;cases hj)];exact hj⟩
   ·rw[hg];simp[Cb,Lf,o8];omega
   ·rw[Gaa h1];exact hb
   ·rw[Gaa h2];exact ho
 obtain⟨v,H1,ha,hB1,L8,ho1,hv1,hv2,hv3,Hal⟩:=app;have po1:∀ d,place H1 d (.Hc oid m off)=some (.Hc oid m (off+d)):=fun d=>Jv ho1 rfl;have st1:=KC (off:=off) ho1 rfl (by omega) hv1 hv2;generalize hH2:H1.set oid (.seq 258 true (cellsOf m (Ux g off v)) m false)=H2 at st1
 have y8:H2[bx]? =some (.box [.Hc oid m off]):=by rw[<- hH2,Gaa (lac hbo)];exact L8
 have ho2:H2[oid]? =some (.seq 258 true (cellsOf m (Ux g off v)) m false):=by rw[<- hH2,Maa (getElem?_lt ho1)]
 have l62:pa H2 false 1 (.ptr bx 0)=some (.Hc oid m off):=by simp[pa,y8,Kh]
 have lo2:=CF (off:=off) ho2 rfl (by omega);rw[kv] at lo2;have po2:∀ d off',place H2 d (.Hc oid m off')=some (.Hc oid m (off'+d)):=fun d off'=>Jv ho2 rfl;have w2:IntKind.u16.wrap ((es.length+1:Nat):Int)=(es.length:Int)+1:=by rw[QW (by omega) (by omega)];omega
 have st2:=KC (off:=off+1+x.toNat) (v:= .pv (.int .u16 ((es.length:Int)+1))) ho2 rfl (by omega) rfl rfl;have Dae:(0<=x/\x < ((256:Nat):Int))=True:=Iaa (by omega);generalize hH3:H2.set oid (.seq 258 true (cellsOf m (Ux (Ux g off v) (off+1+x.toNat) (.pv (.int .u16 ((es.length:Int)+1))))) m false)=H3 at st2
 have key:qd (fun r=>r.1= .norm/\r.2.H=H3) (oa call om ⟨e,H⟩):=by
  clear hB hB1 hb ho L8 ho1 y8 ho2 hH2 hH3;have hsr:fa [AV.pv (PV.int .u8 0)] 0 [AV.pv (PV.int .u8 x)]=[AV.pv (PV.int .u8 x)]:=rfl;have hal:([AV.pv (PV.int .u8 x)].all AV.one=true)=True:=Iaa rfl;have H9:fresh H .lit 1 false 1 [AV.pv (PV.int .u8 x)]=some (.pv (.lit 1 [.int .u8 x]),H):=rfl
  generalize hQ:(fun r:Ex×St=>r.1=Ex.norm/\_)=Q;simp -implicitDefEqProofs only[SX,sevalprocAttr,om,h6,h7,l6,lo,po,wx,ha,po1,st1,l62,lo2,po2,hv3,w2,Dae,st2,hsr,hal,H9];subst hQ;exact⟨rfl,rfl⟩
 obtain⟨⟨ex,s'⟩,h1,h2,h3⟩:=wc key;simp only at h2 h3;subst h2;refine⟨s',m,v,paa _,h1,?_,?_,?_,fun j c hj=> ?_⟩
 ·rw[h3,<-hH3,Gaa (lac hbo)];exact y8
 ·rw[h3,<-hH3];exact Maa (getElem?_lt ho2)
 ·rcases hB1 with h | ⟨tk,q1,q2,q3⟩
  ·exact .inl h
  ·have h4:tk≠oid:=by intro e;subst e;rw[ho1] at q3;cases q3
   refine .inr ⟨tk,q1,q2,?_⟩
   rw[h3,<-hH3,Gaa (lac h4),<-hH2,Gaa (lac h4)];exact q3
 ·have hj1:=Hal j c hj
  have J7:oid≠j:=fun e=>by subst e;rw[ho1] at hj1;cases hj1
  rw[h3,<-hH3,Gaa J7,<-hH2,Gaa J7];exact hj1
def o6(x:Int):PV:= .int .u8 x
theorem of_inner(call:Sa){e:Tr}{bx oid m off:Nat}(h6:e.get 6= .ptr bx 0)(hoff:off+258<=m):∀ (xs:List Int){H:List ba}{fl:Nat}{g:Nat->AV}{es:List PV},H[bx]? =some (.box [.Hc oid m off])->H[oid]? =some (.seq 258 true (cellsOf m g) fl false)->
 (∀ x∈xs,0<=x/\x<=255)->xs.Nodup->B5 (g off) H es->es.length+xs.length<=256->
 ∃ H' x8 g',(fl<=m->x8<=m)/\Jj (fun x H=>oa call om ⟨PC [(7,40)] (Zp [40] x e),H⟩) (xs.map fun x=>[i64 x]) H=some (.norm,H')/\H'[bx]? =some (.box [.Hc oid m off])/\H'[oid]? =some (.seq 258 true (cellsOf m g') x8 false)/\
  B5 (g' off) H' (es++xs.map o6)/\(∀ j,j≠off->(∀ x∈xs,j≠off+1+x.toNat)->g' j=g j)/\(∀ (k:Nat) x,xs[k]? =some x->g' (off+1+x.toNat)= .pv (.int .u16 ((es.length+k:Nat)+1)))/\∀ (j:Nat) c,H[j]? =some (.box c)->H'[j]? =some (.box c):=by
 intro xs
 induction xs with
 |nil=>intro H fl g es hb ho _ _ hB _;exact⟨H,fl,g,id,rfl,hb,ho,by simpa using hB,fun _ _ _=>rfl,fun k x h=>by simp at h,fun _ _ h=>h⟩
 |cons x xs ih=>
  intro H fl g es hb ho hx hnd hB hlen;obtain⟨hx0,hx1⟩:=hx x (by simp);have tad:=List.nodup_cons.1 hnd
  have e6:(PC [(7,40)] (Zp [40] [i64 x] e)).get 6= .ptr bx 0:=by simp[PC,Zp,Tr.aa,h6]
  have e7:(PC [(7,40)] (Zp [40] [i64 x] e)).get 7= .pv (i64 x):=by simp[PC,Zp,Tr.aa]
  obtain⟨s',x8,v,q0,q1,q2,q3,q4,q5⟩:=lX call e6 e7 hb ho hoff hx0 hx1 hB (by simp at hlen;omega);have J7:off≠off+1+x.toNat:=by omega
  obtain⟨H',fl2,g',r0,r1,r2,r3,r4,r5,r6,r7⟩:=ih (es:=es++[o6 x]) q2 q3 (fun y hy=>hx y (by simp[hy])) tad.2 (by rw[ax _ _ J7,kv];exact q4) (by simp at hlen ⊢;omega)
  refine⟨H',fl2,g',fun _=>r0 q0,?_,r2,r3,by simpa using r4,fun j h1 h2=> ?_,fun k y hk=> ?_,fun j c hj=>r7 j c (q5 j c hj)⟩
  ·simp only[lab,Jj,q1,As];exact r1
  ·rw[r5 j h1 fun y hy=>h2 y (by simp[hy]),ax _ _ (h2 x (by simp)),ax _ _ h1]
  ·cases k with
   |zero=>
    simp at hk;subst hk;rw[r5 _ (by omega) (fun y hy e=>by
     have:=(hx y (by simp[hy])).1
     have:y=x:=by omega
     subst this;exact tad.1 hy),kv]
    simp
   |succ k=>
    have:=r6 k y (by simpa using hk);rw[this]
    congr 3
    simp;omega
theorem TU{e:Tr}{H:List ba}{s:Nb}{P:PV}{ps:List PV}{sb oid fl i:Nat}{prod:Int}{g:Nat->AV}(hp:zf P s.parts ps)(hi:i < s.parts.length)(Ba:Ad s.parts[i])
 (h1:e.get 1= .pv (.rp [P,i64 s.first] 0)) (h3:e.get 3= .ptr sb 0) (h4:e.get 4= .pv (i64 prod)) (h5:e.get 5= .pv (i64 i)) (hs:H[sb]? =some (.box [.own oid s.parts.length])) (ho:H[oid]? =some (.seq 258 true (cellsOf (s.parts.length * 258) g) fl false))
 (hg:g (i * 258)= .pv .ga) (hw:IntKind.i64.wrap (prod * (Ml s.parts[i]).length)=prod * (Ml s.parts[i]).length) (hnd:(Ml s.parts[i]).Nodup) (hml:(Ml s.parts[i]).length<=256) (hmb:∀ x∈Ml s.parts[i],0<=x/\x<=255) (J7:Ml s.parts[i]≠[]) (w8:fl<=s.parts.length * 258) (hi2:i<=4611686018427387904):
 qd (fun r=>r.1= .norm/\r.2.env.get 1= .pv (.rp [P,i64 s.first] 0)/\r.2.env.get 3= .ptr sb 0/\r.2.env.get 4= .pv (i64 (prod * (Ml s.parts[i]).length))/\r.2.env.get 5= .pv (i64 (i - 1))/\r.2.H[sb]? =some (.box [.own oid s.parts.length])/\
  ∃ x8 g',x8<=s.parts.length * 258/\r.2.H[oid]? =some (.seq 258 true (cellsOf (s.parts.length * 258) g') x8 false)/\B5 (g' (i * 258)) r.2.H ((Ml s.parts[i]).map o6)/\(∀ j,j≠i * 258->(∀ x∈Ml s.parts[i],j≠i * 258+1+x.toNat)->g' j=Ux g (i * 258+257) (.pv (i64 prod)) j)/\∀ (k:Nat) x,(Ml s.parts[i])[k]? =some x->g' (i * 258+1+x.toNat)= .pv (.int .u16 ((k:Nat)+1))) (oa (Da Ah 8) Xl ⟨e,H⟩):=by
 obtain⟨v,hv1,hv2,hv3⟩:=hp.get hi
 obtain⟨u,hu,A8⟩:=kI hv3 Ba;have hso:sb≠oid:=by intro e;subst e;rw[hs] at ho;cases ho
 have E7:=getElem?_lt hs;have o9:=getElem?_lt ho;generalize hl:s.parts[i]=l at *
 clear hl hp;generalize hn:s.parts.length=n at *
 have p3:place H 0 (.ptr sb 0)=some (.ptr sb 0):=by simp[place,hs]
 have l3:pa H false 1 (.ptr sb 0)=some (.own oid n):=by simp[pa,hs,Kh]
 have ia:ta H 258 (.own oid n) (i:Int)=some (.Hc oid (n * 258) (i * 258)):=by simp only[ta,ho,Yg];rw[if_pos ⟨trivial,by unfold Ia;omega,by unfold Ui;omega⟩];simp
 have hH2:(H++[ba.box [.pv .sf]]).set H.length (.box [.Hc oid (n * 258) (i * 258)])=H++[ba.box [.Hc oid (n * 258) (i * 258)]]:=by rw[Jab _ _ (paa _)];simp
 have st0:Ha (H++[ba.box [.pv .sf]]) 1 (.ptr H.length 0) (.Hc oid (n * 258) (i * 258))=some (H++[ba.box [.Hc oid (n * 258) (i * 258)]]):=by rw[<- hH2];simp[Ha,AV.cells,AV.one,fa]
 have y8:(H++[ba.box [.Hc oid (n * 258) (i * 258)]])[H.length]? =some (.box [.Hc oid (n * 258) (i * 258)]):=by simp
 have ho2:(H++[ba.box [.Hc oid (n * 258) (i * 258)]])[oid]? =some (.seq 258 true (cellsOf (n * 258) g) fl false):=by rw[getElem?_push o9];exact ho
 have hs2:(H++[ba.box [.Hc oid (n * 258) (i * 258)]])[sb]? =some (.box [.own oid n]):=by rw[getElem?_push E7];exact hs
 generalize H++[ba.box [.Hc oid (n * 258) (i * 258)]]=H2 at *;have l6:pa H2 false 1 (.ptr H.length 0)=some (.Hc oid (n * 258) (i * 258)):=by simp[pa,y8,Kh]
 have p6:∀ d,place H2 d (.Hc oid (n * 258) (i * 258))=some (.Hc oid (n * 258) (i * 258+d)):=fun d=>Jv ho2 rfl;have st1:=KC (off:=i * 258+257) (v:= .pv (i64 prod)) ho2 rfl (by omega) rfl rfl;have hbo:H.length≠oid:=by omega
 have hs3:(H2.set oid (.seq 258 true (cellsOf (n * 258) (Ux g (i * 258+257) (.pv (i64 prod)))) (n * 258) false))[sb]? =some (.box [.own oid n]):=by rw[Gaa (lac hso)];exact hs2
 have hb3:(H2.set oid (.seq 258 true (cellsOf (n * 258) (Ux g (i * 258+257) (.pv (i64 prod)))) (n * 258) false))[H.length]? =some (.box [.Hc oid (n * 258) (i * 258)]):=by rw[Gaa (lac hbo)];exact y8
 have ho3:(H2.set oid (.seq 258 true (cellsOf (n * 258) (Ux g (i * 258+257) (.pv (i64 prod)))) (n * 258) false))[oid]? =some (.seq 258 true (cellsOf (n * 258) (Ux g (i * 258+257) (.pv (i64 prod)))) (n * 258) false):=Maa (getElem?_lt ho2);generalize H2.set oid (.seq 258 true (cellsOf (n * 258) (Ux g (i * 258+257) (.pv (i64 prod)))) (n * 258) false)=H3 at *
 have w5:decide ((i:Int)>=0)=true:=decide_eq_true (by omega);have r0:∀ H (x y:PV),pa H false 1 (.pv (.rp [x,y] 0))=some (.pv x):=fun H x y=>rfl;have q0:∀ H (x y:PV),place H 0 (.pv (.rp [x,y] 0))=some (.pv (.rp [x,y] 0)):=fun H x y=>rfl;have il:∀ H,ta H 1 (.pv P) (i:Int)=some (.pv (.rp v.cells 0)):=by
  intro H;subst hv2;have hq:i < ps.length:=getElem?_lt hv1
  simp only[ta];rw[if_pos ⟨trivial,by unfold Ia;omega⟩,Daa,hv1];rfl
 have hvc:v.cells=[v]:=by rcases hv3.is with⟨h,_⟩ | h <;> rw[h] <;> rfl
 rw[hvc] at il;have r1:∀ H (x:PV),pa H false 1 (.pv (.rp [x] 0))=some (.pv x):=fun H x=>rfl;have hlp:=Vw Ba.2
 have rv:zy 35 Sl 1 (.Ol 35 [.pv (.rp [u] 0),.pv (.rp [i64 0] 0)])=some ((Ml l).map fun x=>[i64 x]):=by
  have:((Ml l).map fun x=>[i64 x]).all (HX 1)=true:=by
   rw[Taa];intro y hy;obtain⟨x,_,rfl⟩:=fab.1 hy
   rfl
  simp[zy,Tc,PG hu Ba.2 (by omega)];exact fun _ _=>rfl
 have c39:Ah 39=some gn:=rfl;have Hai:=fun H=>(ai Ah 7 39 [AV.pv v,AV.pv (i64 0)] H (f:=gn) rfl).symm.trans (A8 H)
 generalize hQ:(fun r:Ex×St=>r.1=Ex.norm/\_)=Q;simp -implicitDefEqProofs only[SX,sevalprocAttr,Xl,N1,h1,h3,h4,h5,p3,l3,ia,st0,l6,p6,st1,w5,r0,q0,il,r1,c39,Hai,rv,Uy];have b9:=fun (E:Tr)(h6:E.get 6= .ptr H.length 0)=>of_inner (Da Ah 8) (e:=E) h6 (off:=i * 258) (m:=n * 258) (by omega) (Ml l) (es:=[]) hb3 ho3 hmb hnd (.inl ⟨rfl,by rw[ax _ _ (by omega)];exact hg⟩) (by simpa using hml);generalize W7:(Tr.set _ 39 _:Tr)=E;have e6:E.get 6= .ptr H.length 0:=by rw[<- W7];simp[Tr.aa]
 have e1:E.get 1= .pv (.rp [P,i64 s.first] 0):=by rw[<- W7];simp[Tr.aa,h1]
 have e3:E.get 3= .ptr sb 0:=by rw[<- W7];simp[Tr.aa,h3]
 have e4:E.get 4= .pv (i64 prod):=by rw[<- W7];simp[Tr.aa,h4]
 have e5:E.get 5= .pv (i64 i):=by rw[<- W7];simp[Tr.aa,h5]
 clear W7;obtain⟨H4,fl4,g4,q0,q1,q2,q3,q4,q5,q6,q7⟩:=b9 E e6;rw[q1];have l64:pa H4 false 1 (.ptr H.length 0)=some (.Hc oid (n * 258) (i * 258)):=by simp[pa,q2,Kh]
 have p66:∀ d,place H4 d (.Hc oid (n * 258) (i * 258))=some (.Hc oid (n * 258) (i * 258+d)):=fun d=>Jv q3 rfl;have l67:=CF (off:=i * 258) q3 rfl (by omega);have ln:∀ K,Tb K 0 (g4 (i * 258))=some (Ml l).length:=by
  rcases q4 with⟨h,_⟩ | ⟨tk,_,h,_⟩
  ·simp at h;exact absurd h J7
  ·intro K;rw[h];simp[Tb]
 have w1:IntKind.i64.wrap ((i:Int) - 1)=(i:Int) - 1:=Aa (by omega)
 simp -implicitDefEqProofs only[SX,sevalprocAttr,WU,e6,e1,e3,e4,e5,l64,p66,l67,ln,hw,w1];subst hQ;refine⟨rfl,?_,?_,?_,?_,?_,fl4,g4,q0 (paa _),q3,by simpa using q4,q5,fun k x hk=>by simpa using q6 k x hk⟩ <;> first | exact q7 _ _ hs3 | simp[Tr.aa,e1,e3]
abbrev Cy(w:List Nat):List Int:=w.map fun (n:Nat)=>(n:Int)
theorem wG{l:List (Int×Int)}(hl:Ad l)(x:Nat):(Ld (x:Int) 0 l).2=mj l x:=by
 rw[<- vJ];unfold YP;rw[CK hl.2]
theorem qG:∀ (ls:List (List (Int×Int)))(w:List Nat)(k:Int),(∀ l∈ls,Ad l)->w.length=ls.length->((Ch ls (Cy w) k).isSome↔∀ (j x:Nat) l,w[j]? =some x->ls[j]? =some l->mj l x=true)
 | [],w,k,_,hl=>by have:w=[]:=qaa hl;subst this;rw[Is];simp
 |l::ls,[],k,_,hl=>by simp at hl
 |l::ls,y::w,k,h,hl=>by
  have hp:=h l (by simp);show (Ch (l::ls) ((y:Int)::Cy w) k).isSome↔_
  rw[Ch,wG hp]
  split
  ·next hm=>
   rw[qG ls w _ (fun x hx=>h x (by simp[hx])) (by simpa using hl)];constructor
   ·intro h1 j x l' hj Z8
    cases j with
    |zero=>simp at hj Z8;subst hj Z8;exact hm
    |succ j=>exact h1 j x l' (by simpa using hj) (by simpa using Z8)
   ·intro h1 j x l' hj Z8
    exact h1 (j+1) x l' (by simpa using hj) (by simpa using Z8)
  ·next hm=>
   constructor
   ·intro h1;cases h1
   ·intro h1;exact absurd (h1 0 y l rfl rfl) hm
theorem EI{s:Nb}{j x:Nat}:Io s j x=true↔∃ l,s.parts[j]? =some l/\mj l x=true:=by
 unfold Io;cases s.parts[j]? <;> simp
theorem ZP{s:Nb}(h:Be s)(w:List Nat):(Mi s (Cy w)).isSome↔Full s w:=by
 unfold Mi Full
 by_cases hl:w.length=s.parts.length
 ·rw[if_pos (by rw[haa];exact hl),qG _ _ _ h.parts hl]
  unfold No;constructor
  ·intro h1
   refine⟨fun j x hj=> ?_,hl⟩;have hjl:=(iaa.1 hj).1
   have S9:s.parts[j]? =some s.parts[j]:=aaa (by omega)
   exact EI.2 ⟨_,S9,h1 j x _ hj S9⟩
  ·rintro⟨h1,_⟩ j x l hj S9
   obtain⟨l',h3,h4⟩:=EI.1 (h1 j x hj)
   rw[S9] at h3;injection h3 with h3;subst h3;exact h4
 ·rw[kaa (by rw[haa];exact hl)]
  constructor
  ·intro h1;cases h1
  ·intro h1;exact absurd h1.2 hl
theorem nC:∀ (ls:List (List (Int×Int)))(b:List Int)(k k':Int),(∀ l∈ls,Ad l)->Ch ls b k=some k'->k<=k'/\k' < k+Na ls
 | [],b,k,k',_,h=>by rw[Is] at h;injection h with h;subst h;rw[Na];omega
 |l::ls,[],k,k',hp,h=>by
  rw[Ch] at h
  ·injection h with h;subst h
   have:=yf hp;omega
  ·intro _ _ _ _ h2 h3;cases h3
 |l::ls,y::b,k,k',hp,h=>by
  rw[Ch] at h
  split at h
  ·next hc=>
   have h0:=hp l (by simp);have hb:=dn (x:=y) (n:=0) h0.2 hc
   obtain⟨h1,h2⟩:=nC ls b _ _ (fun x hx=>hp x (by simp[hx])) h;have h3:=yf (ls:=ls) fun x hx=>hp x (by simp[hx]);have h4:0<=(Ld y 0 l).1 * Na ls:=Int.mul_nonneg hb.1 (by omega)
   have h5:((Ld y 0 l).1+1) * Na ls<=ib 0 l * Na ls:=Uac (by omega) (by omega);rw[Int.add_mul,Mae] at h5;rw[Na,Zad (Na ls)];omega
  ·cases h
theorem BN{s:Nb}(h:Be s){b:List Int}{k:Int}(hk:Mi s b=some k):0<=k/\s.first+k<=1073741823:=by
 unfold Mi at hk
 split at hk
 ·obtain⟨h1,h2⟩:=nC _ _ _ _ h.parts hk
  have h3:=h.last
  rw[h.yi] at h3;omega
 ·cases hk
def FW:Int->List (Int×Int)->Option Int
 |_,[]=>none
 |k,p::r=>if k<=p.2 - p.1 then some (p.1+k) else FW (k - (p.2 - p.1+1)) r
theorem vz{top:Int}:∀ {l:List (Int×Int)}{last k:Int},Pa top last l=true->0<=k->k < ib 0 l->∃ x,FW k l=some x/\0<=x/\x<=top/\last+1 < x/\∀ n,Ld x n l=(n+k,true)
 | [],last,k,_,h0,h1=>by simp[ib] at h1;omega
 |p::l,last,k,hv,h0,h1=>by
  obtain⟨v1,v2,v3,v4,v5⟩:=Vc hv;rw[ib,eD] at h1;rw[FW]
  by_cases c:k<=p.2 - p.1
  ·rw[if_pos c]
   refine⟨_,rfl,by omega,by omega,by omega,fun n=> ?_⟩;rw[Ld,kaa (by omega),if_pos (by omega)]
   congr 1;omega
  ·rw[kaa c]
   obtain⟨x,q1,q2,q3,q4,q5⟩:=vz (k:=k - (p.2 - p.1+1)) v5 (by omega) (by omega);refine⟨x,q1,q2,q3,by omega,fun n=> ?_⟩;rw[Ld,kaa (by omega),kaa (by omega),q5]
   congr 1;omega
theorem QE{e:PV}{s:Nb}{P:PV}{ps:List PV}(h:dg e s P ps)(Ba:Be s):Qp [e]=some (i64 (Na s.parts)):=by
 obtain⟨b1,L8,zad⟩:=Pm h;have:=zad.2 Ba
 subst this;have Y7:=cK h Ba;have I8:=h.Qz.1
 have heq:=h.eq
 subst heq;have i0:∀ H,ta H 1 (.pv (.lit 1 ((ml s.parts).map i64))) 0=some (.pv (.rp [i64 (Na s.parts)] 0)):=fun H=>by
  have:(ml s.parts).map i64=i64 (Na s.parts)::((ml s.parts).map i64).tail:=by simp only[ml,List.range_succ_eq_map,lab,xac,List.tail_cons]
  rw[this];simp only[ta];rw[if_pos (by unfold Ia;simp)];rfl
 simp -implicitDefEqProofs only[Qp,SX,sevalprocAttr,-List.reduceReplicate,Vt,I8,pg,L8,Y7,i0,Wa]
def Wh:List (List (Int×Int))->Int->List Int
 | [],_=>[]
 |l::r,k=>(FW (k.tdiv (Na r)) l).getD 0::Wh r (k.tmod (Na r))
theorem QX{k p q:Int}(h0:0<=k)(hp:1<=p)(h1:k < p * q):0<=k.tdiv p/\k.tdiv p < q/\0<=k.tmod p/\k.tmod p < p/\k.tdiv p * p+k.tmod p=k:=by
 rw[Int.tdiv_eq_ediv_of_nonneg h0,Int.tmod_eq_emod_of_nonneg h0];refine⟨Int.ediv_nonneg h0 (by omega),Int.ediv_lt_of_lt_mul (by omega) (by rw[Zad];exact h1),Int.emod_nonneg _ (by omega),Int.emod_lt_of_pos _ (by omega),?_⟩;rw[Zad];exact Int.mul_ediv_add_emod k p
theorem Wy:∀ (ls:List (List (Int×Int)))(k n:Int),(∀ l∈ls,Ad l)->0<=k->k < Na ls->Ch ls (Wh ls k) n=some (n+k)/\(Wh ls k).length=ls.length/\∀ x∈Wh ls k,0<=x/\x<=255
 | [],k,n,_,h0,h1=>by
   have:k=0:=by rw[Na] at h1;omega
   subst this;exact⟨by rw[Is,Int.add_zero],rfl,by simp[Wh]⟩
 |l::r,k,n,hp,h0,h1=>by
  have hpr:=yf (ls:=r) fun x hx=>hp x (by simp[hx]);rw[Na] at h1;obtain⟨d1,d2,d3,d4,d5⟩:=QX h0 hpr h1;obtain⟨x,q1,q2,q3,_,q5⟩:=vz (hp l (by simp)).2 d1 d2
  obtain⟨i1,i2,i3⟩:=Wy r (k.tmod (Na r)) (n+k.tdiv (Na r) * Na r) (fun x hx=>hp x (by simp[hx])) d3 d4;rw[Wh,q1,Tac,Ch,q5,if_pos rfl];simp only[Int.zero_add];rw[i1];refine⟨by congr 1;omega,by simp[i2],?_⟩;intro y hy;rcases Xaa.1 hy with rfl | hy
  ·exact⟨q2,q3⟩
  ·exact i3 y hy
def Pw(l:List (Int×Int))(x:Nat):PV:= .int .u16 (if (Ld (x:Int) 0 l).2 then (Ld (x:Int) 0 l).1+1 else 0)
def Wq(l:List (Int×Int)):PV:= .lit 1 ((Ml l).map o6)
def sL(ls:List (List (Int×Int)))(c:Nat):PV:=
 if c % 258=0 then Wq (ls.getD (c / 258) []) else if c % 258=257 then i64 (Na (ls.drop (c / 258+1))) else Pw (ls.getD (c / 258) []) (c % 258 - 1)
def xK(ls:List (List (Int×Int)))(i:Nat):PV:= .agg ((List.range 258).map fun k=>sL ls (i * 258+k))
def Ij(ls:List (List (Int×Int))):PV:= .rp [.lit 258 ((List.range ls.length).map (xK ls))] 0
def pL(ls:List (List (Int×Int)))(g:Nat->AV)(i:Nat):Prop:=
 (∃ tk,g (i * 258)= .uq tk false 1 ((Ml (ls.getD i [])).map o6))/\(∀ y:Nat,y < 256->g (i * 258+1+y)= .pv (Pw (ls.getD i []) y))/\g (i * 258+257)= .pv (i64 (Na (ls.drop (i+1))))
def VK(g:Nat->AV)(i:Nat):Prop:=g (i * 258)= .pv .ga/\∀ y:Nat,y < 256->g (i * 258+1+y)= .pv (.int .u16 0)
theorem tS{l:List (Int×Int)}(h:Ad l):Ml l≠[]:=by
 intro e;have h1:=PB 0 h.2
 rw[e] at h1;have:=(Xg h).1
 simp at h1;omega
theorem ZW{l:List (Int×Int)}(h:Ad l):(Ml l).length<=256:=by
 have h1:=PB 0 h.2
 have:=(Xg h).2
 omega
theorem sB{l:List (Int×Int)}(h:Ad l):∀ x∈Ml l,0<=x/\x<=255:=by
 intro x hx;obtain⟨k,hk,rfl⟩:=qab hx;have:=Yu (n:=0) h.2 (aaa hk)
 exact⟨this.2.1,this.2.2.1⟩
theorem ZQ{l:List (Int×Int)}(h:Ad l):(Ml l).Nodup:=by
 unfold List.Nodup
 rw[Vac];intro i j hi hj hij e;have h1:=(Yu (n:=0) h.2 (aaa hi)).1
 have h2:=(Yu (n:=0) h.2 (aaa hj)).1
 rw[e,h2] at h1;injection h1 with h1 _
 omega
theorem sP{l:List (Int×Int)}(h:Ad l){k:Nat}{x:Int}(hk:(Ml l)[k]? =some x):Pw l x.toNat= .int .u16 ((k:Nat)+1):=by
 obtain⟨h1,h2,_⟩:=Yu (n:=0) h.2 hk
 unfold Pw;rw[sac h2,h1];simp
theorem XQ{l:List (Int×Int)}(h:Ad l){y:Nat}(hy:(y:Int) ∉ Ml l):Pw l y= .int .u16 0:=by
 unfold Pw;rw[kaa];intro hr;obtain⟨k,h1,_⟩:=Sv h.2 hr
 exact hy (nab h1)
theorem QY(z:List PV)(n:Nat):(Ql z n).length=n * z.length:=by
 induction n with
 |zero=>simp[Ql]
 |succ n ih=>rw[Ql,raa,haa,ih,Nat.add_mul];omega
theorem vR{z:List PV}:∀ {n i k:Nat}{v:PV},i < n->z[k]? =some v->(Ql z n)[i * z.length+k]? =some (.pv v)
 |n+1,0,k,v,_,hk=>by
  have:k < z.length:=getElem?_lt hk
  rw[Ql,Eae,Zaa,eaa (by simpa using this),Eaa,hk];rfl
 |n+1,i+1,k,v,hi,hk=>by rw[Ql,Kaa (by rw[haa,Nat.add_mul];omega),haa,Nat.add_mul,show i * z.length+1 * z.length+k - z.length=i * z.length+k by omega];exact vR (by omega) hk
theorem iL(c:List AV):c=cellsOf c.length (fun j=>c.getD j .undef):=by
 apply Iab;intro j
 by_cases hj:j < c.length
 ·rw[Mt _ hj,taa,aaa hj];rfl
 ·rw[Raa (by omega),Raa (by rw[Yg];omega)]
theorem UP{H:List ba}{d:Nat}{f:Nat->PV}:∀ {n:Nat}{g:Nat->AV},(∀ c,c < n->Sb H d (g c)=some (f c))->Ra (Sb H d) (cellsOf n g)=some ((List.range n).map f):=by
 have key:∀ (l:List Nat)(g:Nat->AV),(∀ c∈l,Sb H d (g c)=some (f c))->Ra (Sb H d) (l.map g)=some (l.map f):=by
  intro l g
  induction l with
  |nil=>intro _;rfl
  |cons a l ih=>intro h;rw[lab,Ra,h a (by simp),yaa,ih fun c hc=>h c (by simp[hc])];rfl
 intro n g h;exact key (List.range n) g fun c hc=>h c (Oac.1 hc)
theorem RO{f:Nat->PV}(a n:Nat):(List.range' a n).map f=(List.range n).map fun k=>f (a+k):=by
 rw[List.range'_eq_map_range,jad];rfl
theorem sE{f:Nat->PV}(sz:Nat):∀ (n a:Nat),chunk sz true n ((List.range' a (n * sz)).map f)=(List.range n).map fun i=> .agg ((List.range sz).map fun k=>f (a+(i * sz+k)))
 |0,a=>by simp[chunk]
 |n+1,a=>by
  have e:List.range' a ((n+1) * sz)=List.range' a sz++List.range' (a+sz) (n * sz):=by rw[Nat.add_mul,Nat.one_mul,Nat.add_comm,List.range'_append_1]
  have hl:((List.range' a sz).map f).length=sz:=by simp
  rw[e,jac,chunk,if_pos rfl,List.take_left' hl,List.drop_left' hl,sE sz n,List.range_succ_eq_map,lab,jad,RO]
  congr 1
  ·congr 1;apply iac;intro k _;congr 1;omega
  ·apply iac;intro i _
   simp only[Function.comp]
   congr 1;apply iac;intro k _;congr 1
   rw[oae];omega
theorem Oo{e:Tr}{t:Nat}:∀ {l:List Nat},t∈l->(Ic e l).get t=e.get t
 |a::l,h=>by
  rw[Ic,Tr.aa]
  by_cases ht:t=a
  ·rw[if_pos ht,ht]
  ·rw[kaa ht]
   rcases Xaa.1 h with h | h
   ·exact absurd h ht
   ·exact Oo h
theorem IZ{E0:Tr}{H0:List ba}{s:Nb}{P:PV}{ps:List PV}{sb oid:Nat}{g0:Nat->AV}(hp:zf P s.parts ps)(Ba:Be s)
 (h1:E0.get 1= .pv (.rp [P,i64 s.first] 0)) (h3:E0.get 3= .ptr sb 0) (h4:E0.get 4= .pv (i64 1)) (h5:E0.get 5= .pv (i64 ((s.parts.length:Int) - 1))) (hs:H0[sb]? =some (.box [.own oid s.parts.length]))
 (ho:H0[oid]? =some (.seq 258 true (cellsOf (s.parts.length * 258) g0) 0 false)) (hz:∀ j,j < s.parts.length->VK g0 j):
 qd (fun r=>∃ E H,r=(.exit 0,⟨E,H⟩)/\E.get 3= .ptr sb 0/\H[sb]? =some (.box [.own oid s.parts.length])/\∃ fl g,H[oid]? =some (.seq 258 true (cellsOf (s.parts.length * 258) g) fl false)/\∀ j,j < s.parts.length->pL s.parts g j)
  (oa (Da Ah 8) (.Zo [1,2,3,4,5] Xl) ⟨E0,H0⟩):=by
 rw[Er];have h8:=Ba.hi
 have hpr:=Ba.prod.2
 refine wa (Fb (fun r t=>t.env.get 1= .pv (.rp [P,i64 s.first] 0)/\t.env.get 3= .ptr sb 0/\t.env.get 4= .pv (i64 (Na (s.parts.drop (s.parts.length - r))))/\t.env.get 5= .pv (i64 ((s.parts.length:Int) - 1 - r))/\t.H[sb]? =some (.box [.own oid s.parts.length])/\
  ∃ fl g,fl<=s.parts.length * 258/\t.H[oid]? =some (.seq 258 true (cellsOf (s.parts.length * 258) g) fl false)/\(∀ j,s.parts.length - r<=j->j < s.parts.length->pL s.parts g j)/\∀ j,j < s.parts.length - r->VK g j)
  s.parts.length (by unfold ua;omega) _ ?_ ?_ ?_) (fun r h=>h.2)
 ·refine⟨?_,?_,?_,?_,hs,0,g0,by omega,ho,fun j a b=>by omega,fun j hj=>hz j (by omega)⟩
  ·simp only[tidy];rw[Oo (by simp),h1]
  ·simp only[tidy];rw[Oo (by simp),h3]
  ·simp only[tidy];rw[Oo (by simp),h4,pae,vab];rfl
  ·simp only[tidy];rw[Oo (by simp),h5];simp
 ·rintro r ⟨E,H⟩ hr ⟨g1,g3,g4,g5,gs,fl,g,w8,go,hd,hz⟩
  obtain⟨i,hi⟩:∃ i,i=s.parts.length - 1 - r:=⟨_,rfl⟩
  have hil:i < s.parts.length:=by omega
  have N8:=Ba.parts s.parts[i] (jaa hil)
  have hdr:s.parts.drop i=s.parts[i]::s.parts.drop (i+1):=Paa hil
  have hpd:Na (s.parts.drop i)=Na (s.parts.drop (i+1)) * ib 0 s.parts[i]:=by rw[hdr,Na]
  have hle:=Fp Ba.parts i
  have v8:=yf (ls:=s.parts.drop i) fun x hx=>Ba.parts x (Vab hx)
  have L7:=PB 0 N8.2
  rw[Int.zero_add] at L7;rw[show s.parts.length - r=i+1 by omega] at g4 hd hz;have Jal:=TU (e:=E) (H:=H) hp hil N8 g1 g3 g4 (by rw[g5];congr 2;omega) gs go (hz i (by omega)).1 (by rw[<- L7,<-hpd];exact Aa (by omega)) (ZQ N8) (ZW N8) (sB N8) (tS N8) w8 (by omega)
  rw[ma,NB];refine wa Jal ?_;rintro⟨ex,E',H'⟩ ⟨rfl,q1,q3,q4,q5,qs,x8,g',qfl,qo,qB,qg,qw⟩;have hgd:s.parts.getD i []=s.parts[i]:=by rw[taa,aaa hil];rfl
  have naa:∀ j k,j≠i->k < 258->g' (j * 258+k)=g (j * 258+k):=by intro j k hj hk;rw[qg _ (by omega) (fun x hx=>by have:=sB N8 x hx;omega),ax _ _ (by omega)]
  refine⟨?_,?_,?_,?_,qs,x8,g',qfl,qo,?_,?_⟩
  ·simp only[tidy];rw[Oo (by simp)];exact q1
  ·simp only[tidy];rw[Oo (by simp)];exact q3
  ·simp only[tidy];rw[Oo (by simp),q4,show s.parts.length - (r+1)=i by omega,hpd,L7]
  ·simp only[tidy];rw[Oo (by simp),q5];congr 2;omega
  ·intro j hj1 hj2
   by_cases hji:j=i
   ·subst hji
    refine⟨?_,fun y hy=> ?_,?_⟩
    ·rcases qB with⟨h,_⟩ | ⟨tk,_,h,_⟩
     ·simp at h;exact absurd h (tS N8)
     ·exact⟨tk,by rw[hgd];exact h⟩
    ·rw[hgd]
     by_cases hm:(y:Int)∈Ml s.parts[j]
     ·obtain⟨k,hk⟩:=Gac.1 hm
      have:=qw k y hk;rw[Daa] at this;rw[this,<-sP N8 hk,Daa]
     ·rw[XQ N8 hm,qg _ (by omega) (fun x hx=>by
       intro e;have:=sB N8 x hx;have:x=(y:Int):=by omega
       exact hm (this ▸ hx)),ax _ _ (by omega)]
      exact (hz j (by omega)).2 y hy
    ·rw[qg _ (by omega) (fun x hx=>by have:=sB N8 x hx;omega),kv]
   ·obtain⟨⟨tk,a1⟩,a2,a3⟩:=hd j (by omega) hj2
    refine⟨⟨tk,?_⟩,fun y hy=> ?_,?_⟩
    ·have:=naa j 0 hji (by omega);rw[lae] at this;rw[this];exact a1
    ·have:=naa j (1+y) hji (by omega);rw[<- Nat.add_assoc] at this;rw[this];exact a2 y hy
    ·rw[naa j 257 hji (by omega)];exact a3
  ·intro j hj
   have hji:j≠i:=by omega
   obtain⟨a1,a2⟩:=hz j (by omega);refine⟨?_,fun y hy=> ?_⟩
   ·have:=naa j 0 hji (by omega);rw[lae] at this;rw[this];exact a1
   ·have:=naa j (1+y) hji (by omega);rw[<- Nat.add_assoc] at this;rw[this];exact a2 y hy
 ·rintro⟨E,H⟩ ⟨g1,g3,g4,g5,gs,fl,g,w8,go,hd,hz⟩
  have e1:decide ((s.parts.length:Int) - 1 - s.parts.length>=0)=false:=Ga (by omega);generalize hQ:(fun r:Ex×St=>r.1.stop=true/\_)=Q;simp -implicitDefEqProofs only[SX,sevalprocAttr,-List.reduceReplicate,Xl,g5,e1];subst hQ;exact⟨rfl,_,_,rfl,by simp[Tr.aa,g3],gs,fl,g,go,fun j hj=>hd j (by omega) hj⟩
theorem eI{e:PV}{s:Nb}{P:PV}{ps:List PV}(h:dg e s P ps)(Ba:Be s):Dt [e]=some (Ij s.parts):=by
 obtain⟨I8,hP2⟩:=h.Qz
 have heq:=h.eq
 subst heq;have hP:=h.parts
 have lP:=hP.Tb
 have h8:=Ba.hi
 generalize hzr:([PV.ga]++List.replicate 256 (PV.int .u16 0)++[PV.int .i64 0])=zr;have nW:zr.length=258:=by rw[<- hzr];simp[-List.reduceReplicate]
 have hzg:∀ i k v,i < s.parts.length->zr[k]? =some v->(Ql zr s.parts.length).getD (i * 258+k) .undef= .pv v:=by intro i k v hi hk;rw[taa,<-nW,vR hi hk];rfl
 have hcz:∀ j,j < s.parts.length->VK (fun c=>(Ql zr s.parts.length).getD c .undef) j:=by
  intro j hj;refine⟨by have:=hzg j 0 .ga hj (by rw[<- hzr];rfl);rw[lae] at this;exact this,fun y hy=> ?_⟩;show (Ql zr s.parts.length).getD (j * 258+1+y) .undef=_
  rw[Nat.add_assoc];refine hzg j (1+y) _ hj ?_;rw[<- hzr,eaa (by simp[-List.reduceReplicate];omega),Kaa (by simp[-List.reduceReplicate]),List.getElem?_replicate];rw[if_pos (by simp[-List.reduceReplicate];omega)]
 have V8:Ql zr s.parts.length=cellsOf (s.parts.length * 258) (fun c=>(Ql zr s.parts.length).getD c .undef):=by have:=iL (Ql zr s.parts.length);rw[QY,nW] at this;exact this
 generalize (fun c=>(Ql zr s.parts.length).getD c AV.undef)=g0 at *;have r0:∀ H (x y:PV),pa H false 1 (.pv (.rp [x,y] 0))=some (.pv x):=fun H x y=>rfl;have q0:∀ H (x y:PV),place H 0 (.pv (.rp [x,y] 0))=some (.pv (.rp [x,y] 0)):=fun H x y=>rfl;have e2:(0<=(s.parts.length:Int))=True:=by simp
 have e3:((s.parts.length:Int)<=(s.parts.length:Int))=True:=by simp
 have e4:eb s.parts.length 544:=by unfold eb;omega
 have t1:IntKind.i64.wrap ((s.parts.length:Int) - 1)=(s.parts.length:Int) - 1:=Aa (by omega)
 have m1:Qs ([PV.ga].map .pv) [(0,1,AV.own 0 s.parts.length)]=some [AV.own 0 s.parts.length]:=rfl;have m2:Hu [AV.own 0 s.parts.length]= .agg [AV.own 0 s.parts.length]:=rfl
 have m3:(([AV.own 0 s.parts.length]:List AV).length=1/\([AV.own 0 s.parts.length]:List AV).all AV.one=true)=True:=by simp[AV.one]
 have hlp:=fun (E:Tr)(a1:E.get 1= .pv (.rp [P,i64 s.first] 0))(a3:E.get 3= .ptr 1 0)(a4:E.get 4= .pv (i64 1))(a5:E.get 5= .pv (i64 ((s.parts.length:Int) - 1)))=>
  IZ (E0:=E) (H0:=[.seq 258 true (cellsOf (s.parts.length * 258) g0) 0 false,.box [.own 0 s.parts.length]]) hP Ba a1 a3 a4 a5 (sb:=1) (oid:=0) rfl rfl hcz
 have p1:∀ A B,place [A,.box B] 0 (.ptr 1 0)=some (.ptr 1 0):=fun A B=>rfl;have l1:∀ A b,pa [A,.box [b]] false 1 (.ptr 1 0)=some b:=fun A b=>rfl;have hw:Ui 258 s.parts.length 0 (cellsOf (s.parts.length * 258) g0).length:=⟨Jac _,by rw[Yg];exact paa _⟩
 have ln:Tb [.seq 258 true (cellsOf (s.parts.length * 258) g0) 0 false,.box [.own 0 s.parts.length]] 0 (.own 0 s.parts.length)=some s.parts.length:=by simp only[Tb,dab,if_pos hw]
 have R7:∀ (H:List ba)(fl:Nat)(g:Nat->AV),H[1]? =some (.box [.own 0 s.parts.length])->H[0]? =some (.seq 258 true (cellsOf (s.parts.length * 258) g) fl false)->(∀ j,j < s.parts.length->pL s.parts g j)->Sb H 6 (.ptr 1 0)=some (Ij s.parts):=by
  intro H fl g h1 h0 hd;have hm:Ra (Sb H 4) (cellsOf (s.parts.length * 258) g)=some ((List.range (s.parts.length * 258)).map (sL s.parts)):=by
   refine UP fun c hc=> ?_;obtain⟨⟨tk,a1⟩,a2,a3⟩:=hd (c / 258) (by omega);unfold sL
   by_cases k0:c % 258=0
   ·rw[if_pos k0,show c=c / 258 * 258 by omega,a1,show c / 258 * 258 / 258=c / 258 by omega];rfl
   ·rw[kaa k0]
    by_cases k1:c % 258=257
    ·rw[if_pos k1]
     have e:g c=g (c / 258 * 258+257):=by congr 1;omega
     rw[e,a3];rfl
    ·rw[kaa k1]
     have e:g c=g (c / 258 * 258+1+(c % 258 - 1)):=by congr 1;omega
     rw[e,a2 _ (by omega)];rfl
  have hc2:s.parts.length * 258=(cellsOf (s.parts.length * 258) g).length/\(true||(258:Nat)==1)=true:=⟨(Yg _ _).symm,rfl⟩
  have h5:Sb H 5 (.own 0 s.parts.length)=some (.lit 258 ((List.range s.parts.length).map (xK s.parts))):=by simp only[Sb,h0,if_pos hc2,saa,if_false,hm,Haa,List.range_eq_range' (n:=s.parts.length * 258),sE,Zaa];rfl
  show (match H[1]? with | some (.box cells)=>(Ra (Sb H 5) cells).map fun ps=>PV.rp ps 0 | _=>none)=_;rw[h1];simp only[Ra,h5,yaa,Haa];rfl
 have Kal:PV.ga::(List.replicate 256 (PV.int .u16 0)++[PV.int .i64 0])=zr:=hzr
 have m4:fa [AV.pv PV.ga] 0 [AV.own 0 s.parts.length]=[AV.own 0 s.parts.length]:=rfl;have m5:Tc [AV.own 0 s.parts.length]=none:=rfl;have m6:[AV.own 0 s.parts.length].all AV.one=true:=rfl
 simp -implicitDefEqProofs only[Dt,SX,sevalprocAttr,-List.reduceReplicate,Lt,I8,r0,q0,lP,e2,e3,Iaa e4,Kal,V8,m4,m5,m6,p1,l1,ln,t1];generalize W7:(Tr.set _ 5 _:Tr)=E;have a1:E.get 1= .pv (.rp [P,i64 s.first] 0):=by rw[<- W7];simp[Tr.aa]
 have a3:E.get 3= .ptr 1 0:=by rw[<- W7];simp[Tr.aa]
 have a4:E.get 4= .pv (i64 1):=by rw[<- W7];simp[Tr.aa]
 have a5:E.get 5= .pv (i64 ((s.parts.length:Int) - 1)):=by rw[<- W7];simp[Tr.aa]
 obtain⟨r,h1,E',H',rfl,q3,q1,fl,g,q4,q5⟩:=wc (hlp E a1 a3 a4 a5);rw[h1];have h9:=R7 H' fl g q1 q4 q5;simp -implicitDefEqProofs only[SX,sevalprocAttr,-List.reduceReplicate,q3,h9]
section
variable {call:Sa}{o0 o1 o4 o5:ba}{c0 c1 c3 c4 c5:AV}
 (hg:∀ nl es,Wd (Xx o0 o1 o4 o5 c0 c1 c3 c4 c5 nl es))
include hg
theorem LZ{E:Tr}{V:PV}{l:List (List ae)}(hV:Vh 1 V (l.map Ee))(hl:l.length<=64)(hle:∀ e∈l,e.length<=256)(Ba:∀ e∈l,yj e)
 (h8:E.get 8= .ptr 2 0) (h101:E.get 101= .pv V) (h102:E.get 102= .pv (i64 l.length)) (h103:E.get 103= .pv (i64 0)):
 qd (fun r=>r.1.stop=true/\∃ E' nl,r=(.exit 2,⟨E',Xx o0 o1 o4 o5 c0 c1 c3 c4 c5 nl (l.map bp)⟩)/\E'.get 8= .ptr 2 0/\(nl=true->l=[]))
  (oa call (.loop [8,101,102,103] Si) ⟨E,Xx o0 o1 o4 o5 c0 c1 c3 c4 c5 true []⟩):=by
 have hgl:∀ nl es,(Xx o0 o1 o4 o5 c0 c1 c3 c4 c5 nl es).length=6:=fun _ _=>rfl
 have hgd:∀ nl es,∀ o∈Xx o0 o1 o4 o5 c0 c1 c3 c4 c5 nl es,qa 6 o=some o:=fun nl es o ho=>hg nl es 6 (by rw[hgl];exact paa _) o ho;have C7:Fit 6 [8,101,102] E:= .cons h8 (Kw (by omega)) (.cons h101 Qa (.cons h102 Qa (.nil _ _)))
 refine Hr (fun i t=>Xe [8,101,102] E t.env/\t.env.get 103= .pv (i64 i)/\∃ nl,t.H=Xx o0 o1 o4 o5 c0 c1 c3 c4 c5 nl ((l.take i).map bp)/\(nl=true->i=0)) l.length (by unfold ua;omega) ?_ ?_ ?_
 ·rw[hgl]
  exact Th.all rfl (hgd _ _) (Fit.sub (.cons h103 Qa C7) rfl) fun E' hE=>⟨Xe.sub hE rfl,by rw[hE 103 (by simp),h103];rfl,true,rfl,fun _=>rfl⟩
 ·rintro i ⟨E1,H1⟩ hi ⟨k1,k2,nl,k3,k4⟩
  simp only at k1 k2 k3;subst k3;refine wa (tW (call:=call) hg hV hl hle Ba hi (by simp;omega) ((k1 8 (by simp)).trans h8) ((k1 101 (by simp)).trans h101) ((k1 102 (by simp)).trans h102) k2) ?_;rintro r ⟨E2,rfl,k5,k6⟩;rw[Un,hgl];have hnx:(l.take (i+1)).map bp=(l.take i).map bp++[bp l[i]]:=by rw[List.take_succ_eq_append_getElem hi,jac];rfl
  exact Th.front (hgl _ _).symm (hgd _ _) (Fit.sub (.cons k6 Qa (C7.je (k1.trans k5))) rfl) fun E' hE=>⟨(k1.trans k5).trans (Xe.sub hE rfl),by rw[hE 103 (by simp),k6],false,by rw[hnx],fun h=>by cases h⟩
 ·rintro⟨E1,H1⟩ ⟨k1,k2,nl,k3,k4⟩
  simp only at k1 k2 k3;subst k3;have uae:=(k1 102 (by simp)).trans h102
  have e1:decide ((l.length:Int) < (l.length:Int))=false:=Ga (by omega);rw[sab];generalize hQ:(fun r:Ex×St=>r.1.stop=true/\_)=Q;simp -implicitDefEqProofs only[SX,sevalprocAttr,-List.reduceReplicate,Si,k2,uae,e1];subst hQ;exact⟨rfl,_,nl,rfl,by rw[Tr.aa,kaa (by decide)];exact (k1 8 (by simp)).trans h8,fun h=>qaa (k4 h)⟩
end
def Mx(s:Nb)(i:Nat):List Int:=[s.first,s.first+Na s.parts - 1,(i:Int)]
def uj(ss:List Nb)(n:Nat):List (List Int):=(List.range n).map fun j=>Mx (ss.getD j ⟨[],0⟩) j
theorem vQ(ss:List Nb){n:Nat}(h:n < ss.length):uj ss (n+1)=uj ss n++[Mx ss[n] n]:=by
 unfold uj;rw[gad,jac,lab,Oad,taa,aaa h];rfl
theorem Jr(ss:List Nb)(n:Nat):(uj ss n).length=n:=by simp[uj]
theorem Dz{ss:List Nb}{n:Nat}{r:List Int}(h:r∈uj ss n):r.length=3:=by
 unfold uj at h;obtain⟨j,_,rfl⟩:=fab.1 h
 rfl
theorem Gz:∀ {D:List (List Int)},(∀ r∈D,r.length=3)->D.flatten.length=D.length * 3
 | [],_=>rfl
 |r::D,h=>by rw[Uab,raa,h r (by simp),Gz fun x hx=>h x (by simp[hx]),Oaa];omega
def Aj(ss:List Nb):Nat:=ss.foldl (fun m s=>if s.parts.length > m then s.parts.length else m) 0
def Pz(o0 o1 o3:ba)(c0 c1 c2:AV)(nl:Bool)(ds:List PV)(D:List (List Int))(fl:Nat)(nr:Bool)(m:Int):List ba:=
 [o0,o1,.box [c0,c1,c2,.uq 4 nl 1 ds,.own 5 D.length,.pv (i64 m)],o3,.tok 1 ds.length nl,.seq 3 true (ig D.flatten) fl nr]
section
variable {call:Sa}{o0 o1 o3:ba}{c0 c1 c2:AV}
theorem jW{E:Tr}{S:PV}{ss:List Nb}{es:List PV}{i:Nat}{nl nr:Bool}{fl:Nat}{ds:List PV}{D:List (List Int)}{m:Nat}(hS:qb S ss es)(Ba:Xb ss)(hi:i < ss.length)(hds:ds.length=i)(hD:D.length=i)(hDr:∀ r∈D,r.length=3)(hm:m<=8)
 (h4:E.get 4= .ptr 0 0) (h8:E.get 8= .ptr 2 0) (h46:E.get 46= .pv S) (h47:E.get 47= .pv (i64 ss.length)) (h48:E.get 48= .pv (i64 i)):
 qd (fun r=>∃ E' T,r=(.norm,⟨E',Pz o0 o1 o3 c0 c1 c2 false (ds++[Ij ss[i].parts]) (D++[Mx ss[i] i]) fl false (if ss[i].parts.length > m then ss[i].parts.length else m:Nat)++T⟩)/\Xe [4,8,46,47] E E'/\E'.get 48= .pv (i64 (i+1:Nat)))
  (oa call Ti ⟨E,Pz o0 o1 o3 c0 c1 c2 nl ds D fl nr m⟩):=by
 obtain⟨P,ps,hsh,a1⟩:=hS.Pd hi
 have hs:=Ba.dt _ (jaa hi)
 have h32:=Ba.len
 have hcn:=QE hsh hs;have hdg:=eI hsh hs;have N8:=yf hs.parts
 have hpr:=hs.prod.2
 have E7:=hs.yi
 have hl1:=hs.last
 have hf0:=hs.f0
 have hf1:=hs.f1
 have h88:=hs.hi
 have lP:=hsh.parts.Tb
 have I8:=hsh.Qz.1
 have hDl:=Gz hDr;generalize ss[i]=s at *;have e1:decide ((i:Int) < (ss.length:Int))=true:=Ea (by omega);have t1:IntKind.i64.wrap ((i:Int)+1)=((i+1:Nat):Int):=sg (by omega)
 have t2:IntKind.i64.wrap (s.first+Na s.parts)=s.first+Na s.parts:=Aa (by omega)
 have t3:IntKind.i64.wrap (s.first+Na s.parts - 1)=s.first+Na s.parts - 1:=Aa (by omega)
 have r2:∀ H (x y:PV),pa H true 2 (.pv (.rp [x,y] 0))=some (.pv (.agg [x,y])):=fun H x y=>rfl;obtain⟨b10,kab⟩:∃ b,b=ba.box [.pv P,.pv (i64 s.first)]:=⟨_,rfl⟩
 have hH0:(Pz o0 o1 o3 c0 c1 c2 nl ds D fl nr m).length=6:=rfl
 have s1:Ha (Pz o0 o1 o3 c0 c1 c2 nl ds D fl nr m++[.box [.pv .ga,.pv (i64 0)]]) 2 (.ptr 6 0) (.pv (.agg [P,i64 s.first]))=some (Pz o0 o1 o3 c0 c1 c2 nl ds D fl nr m++[b10]):=by rw[kab];exact Gp (.pv .ga) (.pv (i64 0)) (.pv P) (.pv (i64 s.first)) I8 rfl (Pz o0 o1 o3 c0 c1 c2 nl ds D fl nr m) _ rfl
 have p1:∀ d,place (Pz o0 o1 o3 c0 c1 c2 nl ds D fl nr m++[b10]) d (.ptr 2 0)=some (.ptr 2 (0+d)):=fun d=>Vg rfl d 0;have q1:∀ d,place (Pz o0 o1 o3 c0 c1 c2 nl ds D fl nr m++[b10]) d (.ptr 6 0)=some (.ptr 6 (0+d)):=fun d=>Vg (by rw[kab];rfl) d 0;have l1:pa (Pz o0 o1 o3 c0 c1 c2 nl ds D fl nr m++[b10]) false 1 (.ptr 2 4)=some (.own 5 D.length):=rfl;have l2:pa (Pz o0 o1 o3 c0 c1 c2 nl ds D fl nr m++[b10]) false 1 (.ptr 6 1)=some (.pv (i64 s.first)):=by rw[kab];rfl
 have l3:pa (Pz o0 o1 o3 c0 c1 c2 nl ds D fl nr m++[b10]) true 2 (.ptr 6 0)=some (.pv (.agg [P,i64 s.first])):=by rw[kab];rfl
 obtain⟨H2,hH2⟩:∃ H,H=[o0,o1,.box [c0,c1,c2,.uq 4 nl 1 ds,.own 5 D.length,.pv (i64 m)],o3,.tok 1 ds.length nl,.seq 3 true (ig (D++[Mx s i]).flatten) fl false,b10]:=⟨_,rfl⟩;have ap1:Cb (Pz o0 o1 o3 c0 c1 c2 nl ds D fl nr m++[b10]) true .own 3 true 24 (.own 5 D.length) (.pv (.lit 3 [.agg [i64 s.first,i64 (s.first+Na s.parts - 1),i64 i]]))=some (.own 5 (D.length+1),H2):=by
  rw[hH2];have hc:ig D.flatten++[AV.pv (i64 s.first),.pv (i64 (s.first+Na s.parts - 1)),.pv (i64 i)]=ig (D++[Mx s i]).flatten:=by rw[List.flatten_append];simp[ig,Mx]
  simp only[Cb,Pz,bab,Yaa,eab,dab,if_true,wk,Lf,Haa,yaa,flat,PV.cells,wab,lab,Oad,Oaa,pab];rw[if_pos ⟨trivial,by rw[haa];omega,by unfold eb;omega,rfl⟩,hc];simp
 have p2:∀ d,place H2 d (.ptr 2 0)=some (.ptr 2 (0+d)):=fun d=>Vg (by rw[hH2];rfl) d 0;obtain⟨H3,hH3⟩:∃ H,H=[o0,o1,.box [c0,c1,c2,.uq 4 nl 1 ds,.own 5 (D.length+1),.pv (i64 m)],o3,.tok 1 ds.length nl,.seq 3 true (ig (D++[Mx s i]).flatten) fl false,b10]:=⟨_,rfl⟩;have s2:Ha H2 1 (.ptr 2 4) (.own 5 (D.length+1))=some H3:=by rw[hH2,hH3];rfl
 have p3:∀ d,place H3 d (.ptr 2 0)=some (.ptr 2 (0+d)):=fun d=>Vg (by rw[hH3];rfl) d 0;have q3:∀ d,place H3 d (.ptr 6 0)=some (.ptr 6 (0+d)):=fun d=>Vg (by rw[hH3,kab];rfl) d 0;have l4:pa H3 false 1 (.ptr 2 5)=some (.pv (i64 m)):=by rw[hH3];rfl
 have l5:pa H3 false 1 (.ptr 6 0)=some (.pv P):=by rw[hH3,kab];rfl
 obtain⟨mm,hmm⟩:∃ x:Nat,x=if s.parts.length > m then s.parts.length else m:=⟨_,rfl⟩
 have hmx:(if (s.parts.length:Int) > (m:Int) then (s.parts.length:Int) else (m:Int))=(mm:Int):=by rw[hmm];split <;> split <;> omega
 obtain⟨H4,hH4⟩:∃ H,H=[o0,o1,.box [c0,c1,c2,.uq 4 nl 1 ds,.own 5 (D.length+1),.pv (i64 mm)],o3,.tok 1 ds.length nl,.seq 3 true (ig (D++[Mx s i]).flatten) fl false,b10]:=⟨_,rfl⟩;have s3:Ha H3 1 (.ptr 2 5) (.pv (.int .i64 mm))=some H4:=by rw[hH3,hH4];rfl
 have p4:∀ d,place H4 d (.ptr 2 0)=some (.ptr 2 (0+d)):=fun d=>Vg (by rw[hH4];rfl) d 0;have l6:pa H4 false 1 (.ptr 2 3)=some (.uq 4 nl 1 ds):=by rw[hH4];rfl
 have l7:pa H4 true 2 (.ptr 6 0)=some (.pv (.agg [P,i64 s.first])):=by rw[hH4,kab];rfl
 obtain⟨H5,hH5⟩:∃ H,H=[o0,o1,.box [c0,c1,c2,.uq 4 nl 1 ds,.own 5 (D.length+1),.pv (i64 mm)],o3,.tok 1 (ds.length+1) false,.seq 3 true (ig (D++[Mx s i]).flatten) fl false,b10]:=⟨_,rfl⟩;have ap2:Cb H4 false .uq 1 false 8 (.uq 4 nl 1 ds) (.pv (.lit 1 [Ij s.parts]))=some (.uq 4 false 1 (ds++[Ij s.parts]),H5):=by rw[hH5];rw[Mh (A:=H4) (id:=4) (n:=ds.length) (nl:=nl) (by rw[hH4];rfl) rfl (by unfold eb;omega) (Ij s.parts)];rw[hH4];rfl
 have p5:∀ d,place H5 d (.ptr 2 0)=some (.ptr 2 (0+d)):=fun d=>Vg (by rw[hH5];rfl) d 0;have s5:Ha H5 1 (.ptr 2 3) (.uq 4 false 1 (ds++[Ij s.parts]))=some (Pz o0 o1 o3 c0 c1 c2 false (ds++[Ij s.parts]) (D++[Mx s i]) fl false mm++[b10]):=by
  rw[hH5];have e1:(ds++[Ij s.parts]).length=ds.length+1:=by simp
  have e2:(D++[Mx s i]).length=D.length+1:=by simp
  unfold Pz;rw[e1,e2];rfl
 rw[<- hmm];have m1:Qs (List.map AV.pv [PV.int .i64 0,.int .i64 0,.int .i64 0]) [(0,1,.pv (i64 s.first)),(1,1,.pv (i64 (s.first+Na s.parts - 1))),(2,1,.pv (i64 i))]=some [.pv (i64 s.first),.pv (i64 (s.first+Na s.parts - 1)),.pv (i64 i)]:=rfl;have hdc:(AV.pv (Ij s.parts)).one=true:=rfl
 have hdp:(Ij s.parts).cells=[Ij s.parts]:=rfl
 have R7:Pz o0 o1 o3 c0 c1 c2 false (ds++[Ij s.parts]) (D++[Mx s i]) fl false mm++[b10]=Pz o0 o1 o3 c0 c1 c2 false (ds++[Ij s.parts]) (D++[Mx s i]) fl false mm++[b10]:=rfl;clear hH2 hH3 hH4 hH5 kab;generalize hG1:Pz o0 o1 o3 c0 c1 c2 nl ds D fl nr m++[b10]=G1 at *;generalize hG0:Pz o0 o1 o3 c0 c1 c2 nl ds D fl nr m=G0 at *;generalize Ij s.parts=dd at *
 generalize hQ:(fun r:Ex×St=>∃ E' T,r=_/\_)=Q;simp -implicitDefEqProofs only[SP,WP,fa,sevalprocAttr,-List.reduceReplicate,Ti,h8,h46,h47,h48,e1,a1,r2,hH0,s1,p1,q1,l1,l2,l3,hcn,t1,t2,t3,ap1,p2,s2,p3,q3,l4,l5,lP,hmx,ep,Ye,s3,p4,l6,l7,hdg,hdc,hdp,ap2,p5,s5];subst hQ;refine⟨_,[b10],rfl,?_,by rw[Tr.aa,if_pos rfl]⟩
 repeat refine Xe.set ?_ rfl
 exact Xe.refl _ _
theorem TQ{ss:List Nb}{i:Nat}(hi:i < ss.length):Aj (ss.take (i+1))=if ss[i].parts.length > Aj (ss.take i) then ss[i].parts.length else Aj (ss.take i):=by
 unfold Aj;rw[List.take_succ_eq_append_getElem hi,Lad];rfl
theorem eY{ss:List Nb}(h:∀ s∈ss,s.parts.length<=8):Aj ss<=8:=by
 have key:∀ (ss:List Nb)(m:Nat),m<=8->(∀ s∈ss,s.parts.length<=8)->ss.foldl (fun m s=>if s.parts.length > m then s.parts.length else m) m<=8:=by
  intro ss
  induction ss with
  |nil=>intro m h _;exact h
  |cons s ss ih=>
   intro m hm h;rw[uad];refine ih _ ?_ fun x hx=>h x (by simp[hx]);have:=h s (by simp)
   split <;> omega
 exact key ss 0 (by omega) h
theorem P0(hg:∀ nl ds D fl nr m,Wd (Pz o0 o1 o3 c0 c1 c2 nl ds D fl nr m)){E:Tr}{S:PV}{ss:List Nb}{es:List PV}(hS:qb S ss es)(Ba:Xb ss)
 (h4:E.get 4= .ptr 0 0) (h8:E.get 8= .ptr 2 0) (h46:E.get 46= .pv S) (h47:E.get 47= .pv (i64 ss.length)) (h48:E.get 48= .pv (i64 0)):
 qd (fun r=>r.1.stop=true/\∃ E' nl nr,r=(.exit 0,⟨E',Pz o0 o1 o3 c0 c1 c2 nl (ss.map fun s=>Ij s.parts) (uj ss ss.length) 0 nr (Aj ss)⟩)/\E'.get 4= .ptr 0 0/\E'.get 8= .ptr 2 0/\(nl=true->ss=[])/\(nr=true->ss=[]))
  (oa call (.loop [4,8,46,47,48] Ti) ⟨E,Pz o0 o1 o3 c0 c1 c2 true [] [] 0 true 0⟩):=by
 have hgl:∀ nl ds D fl nr m,(Pz o0 o1 o3 c0 c1 c2 nl ds D fl nr m).length=6:=fun _ _ _ _ _ _=>rfl
 have hgd:∀ nl ds D fl nr m,∀ o∈Pz o0 o1 o3 c0 c1 c2 nl ds D fl nr m,qa 6 o=some o:=fun nl ds D fl nr m o ho=>hg nl ds D fl nr m 6 (by rw[hgl];exact paa _) o ho;have C7:Fit 6 [4,8,46,47] E:= .cons h4 (Kw (by omega)) (.cons h8 (Kw (by omega)) (.cons h46 Qa (.cons h47 Qa (.nil _ _))))
 have h32:=Ba.len
 refine Hr (fun i t=>Xe [4,8,46,47] E t.env/\t.env.get 48= .pv (i64 i)/\∃ nl nr,t.H=Pz o0 o1 o3 c0 c1 c2 nl ((ss.take i).map fun s=>Ij s.parts) (uj ss i) 0 nr (Aj (ss.take i))/\(nl=true->i=0)/\(nr=true->i=0)) ss.length (by unfold ua;omega) ?_ ?_ ?_
 ·rw[hgl]
  exact Th.all rfl (hgd _ _ _ _ _ _) (Fit.sub (.cons h48 Qa C7) rfl) fun E' hE=>⟨Xe.sub hE rfl,by rw[hE 48 (by simp),h48];rfl,true,true,rfl,fun _=>rfl,fun _=>rfl⟩
 ·rintro i ⟨E1,H1⟩ hi ⟨k1,k2,nl,nr,k3,k4,k5⟩
  simp only at k1 k2 k3;subst k3;refine wa (jW (call:=call) hS Ba hi (by simp;omega) (Jr _ _) (fun r hr=>Dz hr) (eY fun s hs=>(Ba.dt s (uac hs)).hi) ((k1 4 (by simp)).trans h4) ((k1 8 (by simp)).trans h8) ((k1 46 (by simp)).trans h46) ((k1 47 (by simp)).trans h47) k2) ?_;rintro r ⟨E2,T,rfl,k6,k7⟩;rw[Un,hgl,<-vQ ss hi,<-TQ hi];have hnx:(ss.take (i+1)).map (fun s=>Ij s.parts)=(ss.take i).map (fun s=>Ij s.parts)++[Ij ss[i].parts]:=by rw[List.take_succ_eq_append_getElem hi,jac];rfl
  exact Th.front (hgl _ _ _ _ _ _).symm (hgd _ _ _ _ _ _) (Fit.sub (.cons k7 Qa (C7.je (k1.trans k6))) rfl) fun E' hE=>⟨(k1.trans k6).trans (Xe.sub hE rfl),by rw[hE 48 (by simp),k7],false,false,by rw[hnx],fun h=>(by cases h),fun h=>(by cases h)⟩
 ·rintro⟨E1,H1⟩ ⟨k1,k2,nl,nr,k3,k4,k5⟩
  simp only at k1 k2 k3;subst k3;have g47:=(k1 47 (by simp)).trans h47
  have e1:decide ((ss.length:Int) < (ss.length:Int))=false:=Ga (by omega);rw[sab];generalize hQ:(fun r:Ex×St=>r.1.stop=true/\_)=Q;simp -implicitDefEqProofs only[SX,sevalprocAttr,-List.reduceReplicate,Ti,k2,g47,e1];subst hQ;exact⟨rfl,_,nl,nr,rfl,by rw[Tr.aa,kaa (by decide)];exact (k1 4 (by simp)).trans h4,by rw[Tr.aa,kaa (by decide)];exact (k1 8 (by simp)).trans h8,fun h=>qaa (k4 h),fun h=>qaa (k5 h)⟩
end
def Fm(ss:List Nb):Prop:=∀ i j,(hi:i < ss.length)->(hj:j < ss.length)->i < j->ss[i].parts.length=ss[j].parts.length->mf ss[i] ss[j]=false
theorem bN(call:Sa){S:PV}{ss:List Nb}{es:List PV}(hS:qb S ss es)(i j:Nat)(H:List ba)(hi:i < ss.length)(hj:j < ss.length)(hH:H[0]? =some (.box [.pv S])):
 ef call mh [.pv (i64 i),.pv (i64 j),.ptr 0 0] H=some (.pv (.bool (decide (i < j/\ss[i].parts.length=ss[j].parts.length))),H):=by
 obtain⟨P,ps,hPs,a1⟩:=hS.Pd hi
 obtain⟨Q,qs,hQs,a2⟩:=hS.Pd hj
 have lP:=hPs.parts.Tb
 have lQ:=hQs.parts.Tb
 have p0:place H 0 (.ptr 0 0)=some (.ptr 0 0):=by simp[place,hH]
 have l0:pa H false 1 (.ptr 0 0)=some (.pv S):=by simp[pa,hH,Kh]
 have r0:∀ H (x y:PV),pa H false 1 (.pv (.rp [x,y] 0))=some (.pv x):=fun H x y=>rfl;have q0:∀ H (x y:PV),place H 0 (.pv (.rp [x,y] 0))=some (.pv (.rp [x,y] 0)):=fun H x y=>rfl
 by_cases E7:i < j
 ·have e0:decide ((i:Int) < (j:Int))=true:=decide_eq_true (by omega)
  have e:((ss[i].parts.length:Int)==(ss[j].parts.length:Int))=decide (i < j/\ss[i].parts.length=ss[j].parts.length):=by rw[Xad];simp only[beq_iff_eq,decide_eq_true_eq];omega
  generalize decide (i < j/\ss[i].parts.length=ss[j].parts.length)=z at e ⊢;generalize ss[i]=p at *;generalize ss[j]=q at *
  by_cases hij:P=Q
  ·subst hij
   have:p.parts.length=q.parts.length:=by have h1:=lP [];have h2:=lQ [];rw[h1] at h2;exact vad h2
   rw[this] at lP e;obtain rfl:z=true:=by rw[<- e];simp
   simp -implicitDefEqProofs only[SP,WP,fa,sevalprocAttr,mh,p0,l0,a1,a2,r0,q0,lP,e0,e]
  ·simp -implicitDefEqProofs only[SP,WP,fa,sevalprocAttr,mh,p0,l0,a1,a2,r0,q0,lP,lQ,e0,e]
 ·have e0:decide ((i:Int) < (j:Int))=false:=decide_eq_false (by omega)
  have e:decide (i < j/\ss[i].parts.length=ss[j].parts.length)=false:=decide_eq_false (by omega);rw[e];simp -implicitDefEqProofs only[SP,WP,fa,sevalprocAttr,mh,e0]
theorem NQ{S:PV}{ss:List Nb}{es:List PV}(hS:qb S ss es)(Ba:Xb ss):
 ∃ y a b,Gh [.agg [S]]=some (.mc [.agg [.bool y,i64 a,i64 b],i64 0])/\(y=true↔Fm ss):=by
 have E9:(AV.pv S).one=true:=by rcases hS.is with⟨h,_⟩ | h <;> rw[h] <;> rfl
 have c25:gk 25=some Ig:=rfl;have s0:pa [.box [.pv S],Vb false 0 0] true 1 (.ptr 0 0)=some (.pv (.agg [S])):=rfl;have hA:N3 (Da gk 7) 37 S ss.length (fun i j=>if h:i < ss.length/\j < ss.length then decide (i < j/\ss[i].parts.length=ss[j].parts.length) else false):=by refine⟨fun i j H hi hj hH=> ?_⟩;rw[ai gk 6 37 _ H (f:=mh) rfl,bN _ hS i j H hi hj hH,dif_pos ⟨hi,hj⟩]
 obtain⟨y,a,b,T,h1,h2⟩:=iG hS Ba hA (fun i j hi hj h=>by rw[dif_pos ⟨hi,hj⟩] at h;have:=of_decide_eq_true h;omega) (Vb false 0 0) (fun n=>by simp[qa,Ra,Qa]);refine⟨y,a,b,?_,?_⟩
 ·have s2:Ha ([.box [.pv S],Vb false 0 0]++T) 3 (.ptr 1 0) (.pv (.agg [.bool y,i64 a,i64 b]))=some ([.box [.pv S],Vb y a b]++T):=rfl
  have l3:pa ([.box [.pv S],Vb y a b]++T) true 3 (.ptr 1 0)=some (.pv (.agg [.bool y,i64 a,i64 b])):=rfl;generalize hA1:[.box [.pv S],Vb false 0 0]++T=A1 at *;generalize hA2:[.box [.pv S],Vb y a b]++T=A2 at *;simp -implicitDefEqProofs only[Gh,SP,WP,fa,sevalprocAttr,Yr,c25,E9,s0,h1,s2,l3]
 ·rw[h2]
  unfold Fm;constructor
  ·intro h i j hi hj E7 he
   exact h i j hi hj (by rw[dif_pos ⟨hi,hj⟩];exact decide_eq_true ⟨E7,he⟩)
  ·intro h i j hi hj E7
   rw[dif_pos ⟨hi,hj⟩] at E7;obtain⟨h1,h2⟩:=of_decide_eq_true E7;exact h i j hi hj h1 h2
end Go.AM.B1
