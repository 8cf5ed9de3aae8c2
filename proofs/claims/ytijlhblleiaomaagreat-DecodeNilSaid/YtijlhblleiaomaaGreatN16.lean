/- What functions of the program compute. -/
import Derived.Test.YtijlhblleiaomaaGreatN14
import Derived.Test.YtijlhblleiaomaaGreatN15
set_option linter.unusedVariables false
set_option linter.unusedSimpArgs false
namespace Go.AM.B1
open Go.AM Go.AM.So
end Go.AM.B1
namespace Go.AM.B1
open Go.AM Go.AM.So
end Go.AM.B1
namespace Go.AM.B1
open Go.AM Go.AM.So
end Go.AM.B1
namespace Go.AM.B1
open Go.AM Go.AM.So
section
variable {s:ec} (hk:Mg s) (w:List Nat)
include hk
end
theorem VP {s:ec} {w:List Nat} (h:Kq s w):w.length≤s.parts.length:=by
 rcases Nat.eq_zero_or_pos w.length with h0 | h0
 ·omega
 ·have:=dF (h (w.length - 1) w[w.length - 1] (List.getElem?_eq_getElem _))
  omega
end Go.AM.B1
namespace Go.AM.B1
open Go.AM Go.AM.So
theorem LL {q:List Int} (hr:∀ x∈q,0≤x∧x≤255):dU (q.map Int.toNat)=q:=by
 unfold dU
 rw[List.map_map]
 conv=>rhs;rw[← List.map_id q]
 exact List.map_congr_left fun x hx=>by have:=hr x hx;simp;omega
theorem kH {q:List Int} (hr:∀ x∈q,0≤x∧x≤255):Bytes (q.map Int.toNat):=by
 intro x hx
 obtain⟨y,hy,rfl⟩:=List.mem_map.1 hx
 have:=hr y hy
 omega
section
variable {ss:List ec} {l:List (List je)} (ta:ue ss) (hpre:ik ss) (ha:Ck ss=some l)
include ta hpre ha
theorem qD {q:List Int} (hr:∀ x∈q,0≤x∧x≤255) {st:Int} (hs:stays l 0 q=some st):q.length < 8:=by
 have hm:=ry [] hs (i:=0)
 rw[List.append_nil,Nat.zero_add,im] at hm
 obtain⟨m,_,hc⟩:=FM ta hpre ha (q.map Int.toNat) (kH hr)
 have hq:((q.map Int.toNat).map fun (n:Nat)=>(n:Int))=q:=LL hr
 rw[hq,hm] at hc
 have hlen:(q.map Int.toNat).length=q.length:=List.length_map ..
 rcases hc with⟨c1,_⟩ | ⟨c1,c2,c3,c4⟩ | ⟨c1,_⟩
 ·simp at c1
 ·rcases c3 with c3 | ⟨s,hs,c3⟩
  ·have:=congrArg List.length c3
   rw[hlen] at this
   simp at this;simp[this]
  ·have h1:=VP c3
   have h2:=(ta.my s hs).hi
   have h3:(q.map Int.toNat).length≠s.parts.length:=fun h=>c4 s hs ⟨c3,h⟩
   omega
 ·simp at c1
omit ta hpre ha in
theorem OC:∀ {a b:List Int} {st st':Int},stays l st a=some st'→stays l st (a++b)=stays l st' b
 | [],b,st,st',h=>by injection h with h;subst h;rfl
 |x::a,b,st,st',h=>by
  rw[stays] at h
  split at h
  ·cases h
  ·next hn=>rw[List.cons_append,stays,if_neg hn];exact OC h
theorem YH {q:List Int} (hr:∀ x∈q,0≤x∧x≤255) (hs:stays l 0 q=some 0):q=[]:=by
 have hrep:∀ n,stays l 0 (List.replicate n q).flatten=some 0:=by
  intro n
  induction n with
  |zero=>rfl
  |succ n ih=>rw[List.replicate_succ,List.flatten_cons,OC hs];exact ih
 have:=qD ta hpre ha (q:=(List.replicate 8 q).flatten) (fun x hx=>by
  obtain⟨y,hy,hxy⟩:=List.mem_flatten.1 hx
  rw[List.eq_of_mem_replicate hy] at hxy
  exact hr x hxy) (hrep 8)
 have hl:(List.replicate 8 q).flatten.length=8 * q.length:=by simp;omega
 exact List.eq_nil_of_length_eq_zero (by omega)
end
section
variable (ss:List ec) (l:List (List je))
end
end Go.AM.B1
namespace Go.AM.B1
open Go.AM Go.AM.So
def qJ (k:Nat) (f:St→Option (Ex×St)) (Q:Ex×St→Prop):Ex×St→Prop
 | (.goto j,s)=>if j=k then ke Q (WA (f s)) else False
 |r=>Q r
theorem RN {Q:Ex×St→Prop} {k:Nat} {f:St→Option (Ex×St)} {r:Option (Ex×St)}:ke Q (Xo k f r)=ke (qJ k f Q) r:=by
 rcases r with _ | ⟨ex,s⟩
 ·rfl
 ·cases ex with
  |goto j=>show ke Q (if j=k then _ else _)=(if j=k then _ else _);by_cases h:j=k <;> simp[h,ke]
  |_=>rfl
def xR (Q:Ex×St→Prop):Ex×St→Prop
 | (.goto _,_)=>False
 |r=>Q r
theorem HP {Q:Ex×St→Prop} {r:Option (Ex×St)}:ke Q (WA r)=ke (xR Q) r:=by
 rcases r with _ | ⟨ex,s⟩
 ·rfl
 ·cases ex <;> rfl
theorem SM {Q:Ex×St→Prop} {s:St}:xR Q (.ret,s)=Q (.ret,s):=rfl
theorem EC {k:Nat} {f:St→Option (Ex×St)} {Q:Ex×St→Prop} {s:St}:qJ k f Q (.ret,s)=Q (.ret,s):=rfl
theorem yO {k:Nat} {f:St→Option (Ex×St)} {Q:Ex×St→Prop} {s:St}:qJ k f Q (.goto k,s)=ke Q (WA (f s)):=by simp[qJ]
section
variable {T:PV} {ss:List ec} {l:List (List je)} (hT:er T ss l) (ta:ue ss) (ho:∀ e∈l,Qj e)
variable {call call':Fa} {A:List aa} {d c:Nat} (hA:Kc A) (h2:fQ A d c) {bad Sb:Int} {ea fin:Bool}
 (h89:∀ H (k:Int),call 89 [.ptr d 0,.pv (i64 k)] H=Hd call' xb [.ptr d 0,.pv (i64 k)] H)
 (h81:∀ H (x:Int),call 81 [.ptr c 0,.pv (u8 x)] H=Hd call' yc [.ptr c 0,.pv (u8 x)] H)
 {call'':Fa} (h82:∀ H (n:Int),call' 82 [.ptr c 0,.pv (i64 n)] H=Hd call'' Nb [.ptr c 0,.pv (i64 n)] H) (h83:∀ H,call' 83 [.ptr c 0] H=Hd call'' Ib [.ptr c 0] H)
include hT ta hA h2 h89 h82 h83 h81 ho
theorem IN {st:Int} {at_:Nat} (hat:at_≤900000) {buf q:List Int} {h:Nat} (hq:Ak buf h q) (hl:q.length < 8) (hs:stays l 0 q=some st) (hz:st=0↔q=[]) {x:Int} (hx:0≤x∧x≤255) {X:List aa} (hX:Still X) {B:List Ty×List Int} (hB:B=qk ss l (bad==3) q st x):
 ke (fun r=>∃ (nl:Bool) (buf':List Int) (h':Nat) (st':Int) (Y:List aa),r=(.uq (A.length+X.length) nl 5 (Re at_ B.1),Qi A d c (xc T bad c st' ((at_+(B.1.map (·.size)).sum:Nat):Int) Sb ea fin) (ee buf' 8 h' B.2.length) (X++Y))∧Ak buf' h' B.2∧stays l 0 B.2=some st'∧Still Y∧(nl=true→B.1=[])∧Y≠[])
  (Hd call Fc [.ptr d 0,.pv (u8 x)] (Qi A d c (xc T bad c st at_ Sb ea fin) (ee buf 8 h q.length) X)):=by
 have gh:∀ E:Tr,E.get 5= .pv .qa→∀ o1 o2,ff (.NF 5 5) ⟨E,Qi A d c o1 o2 X⟩=some ⟨E.set 5 (.uq (A.length+X.length) true 5 []),Fq A d c o1 o2 X ([]:List PV).length true []⟩:=fun E h o1 o2=>by
  simp only[ff,h,Oi,Jn];rfl
 unfold qk at hB
 have hj:=fun (st:Int) (at_:Nat) (hat:at_≤1000000) (buf q:List Int) (h:Nat) (hq:Ak buf h q) (hl:q.length < 8) (h0:(de l st x).2=true∨st=0) (es:List PV) (hes:es.length≤1000000000) (nl:Bool) (Y:List aa) (hY:Still Y) (E:Tr) (g0:E.get 0= .ptr d 0) (g1:E.get 1= .pv (u8 x)) (g5:E.get 5= .uq (A.length+X.length) nl 5 es)=>WL hT ta ho hA h2 h89 h81 h82 h83 (bad:=bad) (Sb:=Sb) (ea:=ea) (fin:=fin) hat hq hl hx h0 hX hes hY g0 g1 g5 rfl
 have hjh:=fun (hg:(de l st x).2=false∧st≠0) (E:Tr) (g0:E.get 0= .ptr d 0) (g1:E.get 1= .pv (u8 x)) (g5:E.get 5= .uq (A.length+X.length) true 5 [])=>uK hT ta ho hA h2 h89 h82 h83 (bad:=bad) (Sb:=Sb) (ea:=ea) (fin:=fin) (at_:=at_) (by omega) hq hx hg hX (es:=[]) (by simp) (nl:=true) (Y:=[]) Still.nil g0 g1 g5
 generalize hQ:(fun r:AV×List aa=>∃ nl buf' h' st' Y,r=_∧_)=Q
 simp -implicitDefEqProofs only[SX,sevalprocAttr,Fc,dQ,RN,Ry,gh,Tr.ba]
 by_cases hg:(de l st x).2=false∧st≠0
 ·have hqne:q≠[]:=fun h=>hg.2 (hz.2 h)
  rw[if_neg (by rw[hg.1];simp),if_neg hqne] at hB
  refine Wa (hjh hg _ (by simp[Tr.ba]) (by simp[Tr.ba]) (by simp[Tr.ba])) ?_
  rintro r ⟨E',Y',buf1,h1,rfl,r4,r5,r0,r1,rY,rq⟩
  by_cases h3:bad=3
  ·have e3:(bad==3)=true:=by rw[h3];rfl
   rw[if_pos h3]
   rw[e3,if_pos rfl] at hB
   subst hB
   simp -implicitDefEqProofs only[SX,sevalprocAttr,EC,r4 h3]
   subst hQ
   exact⟨false,buf1,h1,0,.tok 5 1 false::Y',by simp[Fq,Re],rq,rfl,(Still.tok 5 1 false).cons rY,fun h=>(by cases h),by simp⟩
  ·have e3:(bad==3)=false:=beq_false_of_ne h3
   rw[if_neg h3]
   rw[e3,if_neg (by simp)] at hB
   simp -implicitDefEqProofs only[SX,sevalprocAttr,yO,HP]
   have hl0:(de l 0 x).2=true∨(0:Int)=0:= .inr rfl
   have hj2:=hj 0 (at_+q.length) (by omega) buf1 [] h1 rq (by simp) hl0 [Dh ⟨2,q.length,0⟩ at_] (by simp) false Y' rY E' r0 r1 r5
   refine Wa (show ke _ (ga call yb ⟨E',Fq A d c (xc T bad c 0 ((at_+q.length:Nat):Int) Sb ea fin) (ee buf1 8 h1 0) X 1 false Y'⟩) from hj2) ?_
   rintro r ⟨E2,nl2,buf2,h2',Y2,rfl,u4,uq,uY,un⟩
   have h2n:nl2=false:=by cases nl2 with | false=>rfl | true=>exact absurd (un rfl).1 (by simp)
   simp -implicitDefEqProofs only[SX,sevalprocAttr,SM,u4]
   subst hQ
   subst h2n
   have hb0:CF ss l x=((rl ss l [] 0 x).1,(rl ss l [] 0 x).2.1):=by
    unfold CF rl
    repeat' split
    all_goals first | rfl | contradiction
   have hst0:stays l 0 (rl ss l [] 0 x).2.1=some (rl ss l [] 0 x).2.2:=by
    unfold rl
    split
    ·next h1=>
     split
     ·rfl
     ·next h2=>rw[List.nil_append,stays,if_neg (by rw[h1];simp[h2]),stays]
    ·rfl
   rw[hb0] at hB
   subst hB
   have ha1:at_+q.length+((rl ss l [] 0 x).1.map (·.size)).sum=at_+(((⟨2,q.length,0⟩:Ty)::(rl ss l [] 0 x).1).map (·.size)).sum:=by simp;omega
   refine⟨false,buf2,h2',_,.tok 5 ((Re (at_+q.length) (rl ss l [] 0 x).1).length+1) false::Y2,?_,uq,hst0,(Still.tok 5 _ false).cons uY,fun h=>(by cases h),by simp⟩
   rw[ha1];rfl
 ·have h0:(de l st x).2=true∨st=0:=by
   cases hc:(de l st x).2 with
   |true=>exact .inl rfl
   |false=>exact .inr (Decidable.byContradiction fun h=>hg ⟨hc,h⟩)
  refine Wa (hj st at_ (by omega) buf q h hq hl h0 [] (by simp) true [] Still.nil _ (by simp[Tr.ba]) (by simp[Tr.ba]) (by simp[Tr.ba])) ?_
  rintro r ⟨E',nl',buf',h',Y',rfl,r4,rq,rY,rn⟩
  simp -implicitDefEqProofs only[SX,sevalprocAttr,EC,r4]
  subst hQ
  have hb:B=((rl ss l q st x).1,(rl ss l q st x).2.1):=by
   rw[hB]
   unfold rl
   by_cases h1:(de l st x).2=true
   ·rw[if_pos h1,if_pos h1]
    by_cases h2:(de l st x).1= -1
    ·rw[if_pos h2,if_pos h2]
    ·rw[if_neg h2,if_neg h2]
   ·have hq0:=hz.1 (h0.resolve_left h1)
    rw[if_neg h1,if_neg h1,if_pos hq0,hq0];rfl
  have hst0:stays l 0 (rl ss l q st x).2.1=some (rl ss l q st x).2.2:=by
   unfold rl
   split
   ·next h1=>
    split
    ·rfl
    ·next h2=>exact oz hs h1 h2
   ·rfl
  rw[hb]
  exact⟨nl',buf',h',_,.tok 5 _ nl'::Y',rfl,rq,hst0,(Still.tok 5 _ nl').cons rY,fun h=>(rn h).2,by simp⟩
end
end Go.AM.B1
namespace Go.AM.B1
open Go.AM Go.AM.So
theorem nM {ss:List ec} {l:List (List je)} {h:List Int} {st x:Int} (hb:(qk ss l true h st x).1.any El=true):(qk ss l true h st x).1.length=1:=by
 unfold qk at hb ⊢
 repeat' split
 all_goals first | rfl | (simp_all [El])
theorem cL {ss:List ec} {l:List (List je)} {s:Bool} {h:List Int} {st x:Int}:(qk ss l s h st x).1.length≤2∧(qk ss l s h st x).2.length≤h.length+1∧((qk ss l s h st x).1.map (·.size)).sum+(qk ss l s h st x).2.length≤h.length+1∧∀ y∈(qk ss l s h st x).2,y∈h∨y=x:=by
 unfold qk CF
 repeat' split
 all_goals simp
 all_goals first | omega | skip
def wR (k a n u:Int):aa:= .box ((lr k a n u).map .pv)
section
variable {call:Fa} {A:List aa} {d c:Nat} (hA:Kc A) (h2:fQ A d c) {T:PV} {bad st at_ Sb:Int} {fin:Bool} {buf:List Int} {h m:Int} {X:List aa} (hX:Still X)
include hA h2 hX
theorem VI {evs:List Ty} {p:Nat} (hone:bad=3→evs.any El=true→evs.length=1) (hlen:evs.length≤2) {out:List PV} (hout:out.length≤1000000000) {nl nl2:Bool} {Y:List aa} (hY:Still Y) {B:AV} {n i:Int} {id2:Nat} (hid:id2 < A.length+X.length+1+Y.length) (hkB:AV.Wc (A.length+X.length+1+Y.length) deep B=true)
 {E0:Tr} (g0:E0.get 0= .ptr d 0) (g7:E0.get 7= .uq (A.length+X.length) nl 5 out) (g38:E0.get 38=B) (g39:E0.get 39= .pv (i64 n)) (g40:E0.get 40= .pv (i64 i)) (g46:E0.get 46= .uq id2 nl2 5 (Re p evs)) (g47:E0.get 47= .pv (i64 evs.length)) (g48:E0.get 48= .pv (i64 0)):
 ke (fun r=>r.1.stop=true∧∃ E nl' Y',r=(if bad=3∧evs.any El=true then .exit 0 else .exit 2,⟨E,Fq A d c (xc T bad c st at_ Sb (decide (bad=3∧evs.any El=true)) fin) (ee buf 8 h m) X (out++Re p evs).length nl' Y'⟩)∧Still Y'∧E.get 0= .ptr d 0∧E.get 7= .uq (A.length+X.length) nl' 5 (out++Re p evs)∧E.get 38=B∧E.get 39= .pv (i64 n)∧E.get 40= .pv (i64 i)∧(nl'=true→nl=true∧evs=[]))
  (ga call (.loop [0,7,38,39,40,46,47,48] Xc) ⟨E0,Fq A d c (xc T bad c st at_ Sb false fin) (ee buf 8 h m) X out.length nl Y⟩):=by
 obtain⟨K,hK⟩:∃ K:aa→Nat→Bool→List aa→List aa,K=fun o1 m' nl Y=>Fq A d c o1 (ee buf 8 h m) X m' nl Y:=⟨_,rfl⟩
 have hK':∀ o1 m' nl Y,Fq A d c o1 (ee buf 8 h m) X m' nl Y=K o1 m' nl Y:=fun o1 m' nl Y=>by rw[hK]
 have gd:∀ o1 m' nl Y,(K o1 m' nl Y)[d]? =some o1:=fun o1 m' nl Y=>by rw[hK];exact Kx h2
 have sd:∀ o1 m' nl Y o,(K o1 m' nl Y).set d o=K o m' nl Y:=fun o1 m' nl Y o=>by rw[hK];exact Az h2
 have kl:∀ o1 m' nl Y,(K o1 m' nl Y).length=A.length+X.length+1+Y.length:=fun o1 m' nl Y=>by rw[hK];show (Qi _ _ _ _ _ _).length=_;rw[Oi];simp;omega
 have kx:∀ o1 m' nl Y Z,K o1 m' nl Y++Z=K o1 m' nl (Y++Z):=fun o1 m' nl Y Z=>by rw[hK];show Qi _ _ _ _ _ _++_=Qi _ _ _ _ _ _;rw[Jn,List.append_assoc];rfl
 have kg:∀ sp m' nl Y,Still Y→Kc (K (xc T bad c st at_ Sb sp fin) m' nl Y):=fun sp m' nl Y hY=>by rw[hK];exact Xs hA h2 (hX.Fq hY)
 have kbx:∀ o1 m' nl Y r,(K o1 m' nl (Y++[.box (List.map AV.pv r)]))[A.length+X.length+1+Y.length]? =some (.box (r.map .pv)):=fun o1 m' nl Y r=>by
  rw[← kx,List.getElem?_append_right (by rw[kl];exact Nat.le_refl _),kl,Nat.sub_self];rfl
 have kbs:∀ o1 m' nl Y r r',(K o1 m' nl (Y++[.box (List.map AV.pv r)])).set (A.length+X.length+1+Y.length) (.box (r'.map .pv))=K o1 m' nl (Y++[.box (List.map AV.pv r')]):=fun o1 m' nl Y r r'=>by
  rw[← kx,List.set_append_right _ _ (by rw[kl];exact Nat.le_refl _),kl,Nat.sub_self,←kx];rfl
 have pd:∀ sp m' nl Y k,place (K (xc T bad c st at_ Sb sp fin) m' nl Y) k (.ptr d 0)=some (.ptr d k):=fun sp m' nl Y k=>Ox (gd _ _ _ _) k
 have ldd:=fun sp m' nl Y=>Zs (gd (xc T bad c st at_ Sb sp fin) m' nl Y)
 have s6:∀ sp m' nl Y (v:Bool),Pa (K (xc T bad c st at_ Sb sp fin) m' nl Y) 1 (.ptr d 6) (.pv (.bool v))=some (K (xc T bad c st at_ Sb v fin) m' nl Y):=fun sp m' nl Y v=>by rw[VS (gd _ _ _ _),sd]
 simp only[hK']
 refine Zy (σ:=Nat×List PV×Bool) (fun x=>[(0,.ptr d 0),(7,.uq (A.length+X.length) x.2.2 5 x.2.1),(38,B),(39,.pv (i64 n)),(40,.pv (i64 i)),(46,.uq id2 nl2 5 (Re p evs)),(47,.pv (i64 evs.length)),(48,.pv (i64 x.1))])
  (fun x=>K (xc T bad c st at_ Sb false fin) x.2.1.length x.2.2 Y) (fun k x=>x.1=k∧x.2.1=out++(Re p evs).take k∧(x.2.2=true→nl=true∧k=0)∧(bad=3→evs.any El=true→k=0)) evs.length (by unfold wa;omega) (fun _=>rfl) ?_ ?_ ?_ ?_
 ·rintro k x _
  rw[kl,kl]
  have:=h2.ld
  exact⟨by simp[Oq,Rr,Uy,hid,hkB,show d < A.length+X.length+1+Y.length by omega,show A.length+X.length < A.length+X.length+1+Y.length by omega],fun o ho=>kg _ _ _ _ hY _ (by rw[kl];exact Nat.le_refl _) o ho,rfl⟩
 ·exact⟨(0,out,nl),⟨g0,g7,g38,g39,g40,g46,g47,g48,trivial⟩,rfl,rfl,by simp,fun h=>⟨h,rfl⟩,fun _ _=>rfl⟩
 ·rintro _ ⟨k,acc,nl'⟩ E hi ⟨rfl,hacc,hnl,hst⟩ ⟨g0,g7,g38,g39,g40,g46,g47,g48,_⟩
  simp only at hi hacc hnl hst g0 g7 g38 g39 g40 g46 g47 g48
  obtain⟨pl,hev⟩:=eH p evs k hi
  have hL:(Re p evs).length=evs.length:=Ap p evs
  have htk:(Re p evs).take (k+1)=(Re p evs).take k++[Dh evs[k] pl]:=by rw[List.take_add_one,hev];rfl
  have hbad:evs[k].kind=2→evs.any El=true:=fun h=>List.any_eq_true.2 ⟨_,List.getElem_mem hi,by simp[El,h]⟩
  have hnb:bad=3→evs[k].kind≠2→evs.any El=false:=fun h3 hk2=>by
   cases hb:evs.any El with
   |false=>rfl
   |true=>
    have h1:=hone h3 hb
    match evs,h1,hi,hk2,hb,hst h3 hb with
    | [e],_,hi,hk2,hb,hk0=>
      subst hk0
      simp[El] at hb hk2
      exact absurd hb hk2
  have hal:acc.length≤1000000002:=by rw[hacc,List.length_append,List.length_take];omega
  have e1:decide ((k:Int) < (evs.length:Int))=true:=Za (by omega)
  have t1:IntKind.i64.wrap ((k:Int)+1)=((k+1:Nat):Int):=Gh (by omega)
  have a1:∀ H,ma H 5 (.uq id2 nl2 5 (Re p evs)) (k:Int)=some (.pv (.rp (lr evs[k].kind pl evs[k].size evs[k].u) 0)):=fun H=>by
   simp only[ma]
   rw[if_pos ⟨trivial,by unfold Ca;omega⟩,Int.toNat_natCast,hev];rfl
  have a2:∀ H,na H true 5 (.pv (.rp (lr evs[k].kind pl evs[k].size evs[k].u) 0))=some (.pv (Dh evs[k] pl)):=fun H=>rfl
  have hz:∀ o1 m' nl,K o1 m' nl Y++[.box [.pv (.int .i64 0),.pv (.int .i64 0),.pv (.int .i64 0),.pv (.int .i64 0),.pv (.int .i64 0)]]=K o1 m' nl (Y++[wR 0 0 0 0]):=fun o1 m' nl=>kx o1 m' nl Y _
  have sT:∀ m' nl,Pa (K (xc T bad c st at_ Sb false fin) m' nl (Y++[wR 0 0 0 0])) 5 (.ptr (A.length+X.length+1+Y.length) 0) (.pv (Dh evs[k] pl))=some (K (xc T bad c st at_ Sb false fin) m' nl (Y++[wR evs[k].kind pl evs[k].size evs[k].u])):=fun m' nl=>by
   have:=vD (b:=lr evs[k].kind pl evs[k].size evs[k].u) (kbx (xc T bad c st at_ Sb false fin) m' nl Y (lr 0 0 0 0)) rfl rfl LD
   rw[kbs] at this
   exact this
  have lT:∀ m' nl,na (K (xc T bad c st at_ Sb false fin) m' nl (Y++[wR evs[k].kind pl evs[k].size evs[k].u])) true 5 (.ptr (A.length+X.length+1+Y.length) 0)=some (.pv (Dh evs[k] pl)):=fun m' nl=>dE (kbx _ _ _ _ _) rfl
  have pe:∀ m' nl j,place (K (xc T bad c st at_ Sb false fin) m' nl (Y++[wR evs[k].kind pl evs[k].size evs[k].u])) j (.ptr (A.length+X.length+1+Y.length) 0)=some (.ptr (A.length+X.length+1+Y.length) j):=fun m' nl j=>xq (kbx _ _ _ _ _) j
  have l0:∀ m' nl,na (K (xc T bad c st at_ Sb false fin) m' nl (Y++[wR evs[k].kind pl evs[k].size evs[k].u])) false 1 (.ptr (A.length+X.length+1+Y.length) 0)=some (.pv (i64 evs[k].kind)):=fun m' nl=>Am (kbx _ _ _ _ _) rfl
  have ap:∀ Y e,Hc (K (xc T bad c st at_ Sb false fin) acc.length nl' Y) false .uq 5 true 40 (.uq (A.length+X.length) nl' 5 acc) (.pv (.lit 5 [e]))=some (.uq (A.length+X.length) false 5 (acc++[e]),K (xc T bad c st at_ Sb false fin) (acc++[e]).length false Y):=fun Y e=>by rw[hK];exact sI e rfl (by omega)
  have bsl:∀ (e:Ty) (a:Int) (H:List aa),((if (List.map AV.pv (Dh e a).cells).length=5∧(List.map AV.pv (Dh e a).cells).all AV.one=true then some (oa [AV.pv (PV.int IntKind.i64 0),AV.pv (PV.int IntKind.i64 0),AV.pv (PV.int IntKind.i64 0),AV.pv (PV.int IntKind.i64 0),AV.pv (PV.int IntKind.i64 0)] 0 (List.map AV.pv (Dh e a).cells)) else none).bind fun cs=>
   if cs.all AV.one=true then Option.map (fun ps=>(AV.pv (PV.lit 5 [PV.agg (List.take 5 ps)]),H)) (Bc cs) else none)=some (.pv (.lit 5 [Dh e a]),H):=fun e a H=>rfl
  have hYb:=hY.app (Still.box (lr evs[k].kind pl evs[k].size evs[k].u))
  clear hK hK' gd sd kbx kbs
  generalize evs[k]=e at *
  generalize hQ:RH _ _ _ _=Q
  by_cases hk2:e.kind=2
  ·have e2:(e.kind==2)=true:=by rw[hk2];rfl
   by_cases h3:bad=3
   ·have e3:(bad==3)=true:=by rw[h3];rfl
    simp -implicitDefEqProofs only[SX,sevalprocAttr,Xc,g0,g7,g38,g39,g40,g46,g47,g48,e1,a1,a2,hz,kl,sT,lT,bsl,ap,pe,l0,e2,pd,ldd,e3,s6]
    subst hQ
    have hk0:=hst h3 (hbad hk2)
    have h1:=hone h3 (hbad hk2)
    subst hk0
    have hw:acc++[Dh e pl]=out++Re p evs:=by
     rw[hacc,List.append_assoc]
     congr 1
     rw[← htk,List.take_of_length_le (by omega)]
    rw[if_pos ⟨h3,hbad hk2⟩,decide_eq_true ⟨h3,hbad hk2⟩,←hw]
    exact⟨_,false,_,rfl,hYb,by simp[Tr.ba,g0],by simp[Tr.ba],by simp[Tr.ba,g38],by simp[Tr.ba,g39],by simp[Tr.ba,g40],fun h=>by cases h⟩
   ·have e3:(bad==3)=false:=beq_false_of_ne h3
    simp -implicitDefEqProofs only[SX,sevalprocAttr,Xc,g0,g7,g38,g39,g40,g46,g47,g48,e1,a1,a2,hz,kl,sT,lT,bsl,ap,pe,l0,e2,pd,ldd,e3,t1]
    subst hQ
    exact⟨(k+1,acc++[Dh e pl],false),[wR e.kind pl e.size e.u],by simp[Has,Tr.ba,g0,g38,g39,g40,g46,g47],(kx _ _ _ _ _).symm,rfl,by rw[htk,hacc,List.append_assoc],(fun h=>by cases h),fun h=>absurd h h3⟩
  ·have e2:(e.kind==2)=false:=beq_false_of_ne hk2
   simp -implicitDefEqProofs only[SX,sevalprocAttr,Xc,g0,g7,g38,g39,g40,g46,g47,g48,e1,a1,a2,hz,kl,sT,lT,bsl,ap,pe,l0,e2,pd,ldd,t1]
   subst hQ
   exact⟨(k+1,acc++[Dh e pl],false),[wR e.kind pl e.size e.u],by simp[Has,Tr.ba,g0,g38,g39,g40,g46,g47],(kx _ _ _ _ _).symm,rfl,by rw[htk,hacc,List.append_assoc],(fun h=>by cases h),fun h3 h=>by rw[hnb h3 hk2] at h;cases h⟩
 ·rintro⟨k,acc,nl'⟩ E ⟨hk,hacc,hnl,hst⟩ ⟨g0,g7,g38,g39,g40,g46,g47,g48,_⟩
  simp only at hk hacc hnl hst g0 g7 g38 g39 g40 g46 g47 g48 ⊢
  subst hk
  have hL:(Re p evs).length=evs.length:=Ap p evs
  rw[List.take_of_length_le (by omega)] at hacc
  have hno:¬(bad=3∧evs.any El=true):=fun h=>by
   have:=hst h.1 h.2
   have:=hone h.1 h.2
   omega
  rw[if_neg hno,decide_eq_false hno]
  have e1:decide ((evs.length:Int) < (evs.length:Int))=false:=mb (by omega)
  generalize hQ:(fun r:Ex×St=>r.1.stop=true∧_)=Q
  simp -implicitDefEqProofs only[SX,sevalprocAttr,Xc,g47,g48,e1]
  subst hQ
  subst hacc
  exact⟨rfl,_,nl',Y,rfl,hY,by simp[Tr.ba,g0],by simp[Tr.ba,g7],by simp[Tr.ba,g38],by simp[Tr.ba,g39],by simp[Tr.ba,g40],fun h=>⟨(hnl h).1,List.eq_nil_of_length_eq_zero (hnl h).2⟩⟩
end
end Go.AM.B1
namespace Go.AM.B1
open Go.AM Go.AM.So
def Hw (l:List Ty):Nat:=(l.map (·.size)).sum
theorem bK (a b:List Ty):Hw (a++b)=Hw a+Hw b:=by simp[Hw]
structure Jy (U:AV) (bs:List Int) (n0:Nat):Prop where
 len:∀ H,Mc H 0 U=some bs.length
 JS:∀ H (i:Nat) (h:i < bs.length),ma H 1 U (i:Int)=some (.pv (.rp [u8 bs[i]] 0))
 Wc:∀ n,n0≤n→AV.Wc n deep U=true
 iw:∀ b∈bs,0≤b∧b≤255
theorem Jy.of {B:PV} {bs:List Int} (h:ej B bs) (n0:Nat):Jy (.pv B) bs n0:=⟨h.Mc,fun H i hi=>h.mg hi H,fun n _=>Oq B,h.iw⟩
theorem Jy.uq {bs:List Int} (hr:∀ b∈bs,0≤b∧b≤255) {id n0:Nat} (nl:Bool) (h:id < n0):Jy (.uq id nl 1 (bs.map u8)) bs n0:=by
 refine⟨fun H=>by simp[Mc],fun H i hi=> ?_,fun n hn=>Uy (by omega),hr⟩
 simp only[ma]
 rw[if_pos ⟨trivial,by unfold Ca;rw[List.length_map];omega⟩,Int.toNat_natCast,List.getElem?_map,List.getElem?_eq_getElem hi];rfl
section
variable {T:PV} {ss:List ec} {l:List (List je)} (hT:er T ss l) (ta:ue ss) (ho:∀ e∈l,Qj e) (hpre:ik ss) (ha:Ck ss=some l)
variable {call call' call'' call3:Fa} {A:List aa} {d c:Nat} (hA:Kc A) (h2:fQ A d c) {bad Sb:Int} {ea fin:Bool}
 (h90:∀ H (x:Int),call 90 [.ptr d 0,.pv (u8 x)] H=Hd call' Fc [.ptr d 0,.pv (u8 x)] H)
 (h89:∀ H (k:Int),call' 89 [.ptr d 0,.pv (i64 k)] H=Hd call'' xb [.ptr d 0,.pv (i64 k)] H)
 (h81:∀ H (x:Int),call' 81 [.ptr c 0,.pv (u8 x)] H=Hd call'' yc [.ptr c 0,.pv (u8 x)] H)
 (h82:∀ H (n:Int),call'' 82 [.ptr c 0,.pv (i64 n)] H=Hd call3 Nb [.ptr c 0,.pv (i64 n)] H) (h83:∀ H,call'' 83 [.ptr c 0] H=Hd call3 Ib [.ptr c 0] H)
include hT ta ho hpre ha hA h2 h90 h89 h81 h82 h83
theorem sH {a0:Nat} (ha0:a0≤65536) {B:AV} {bs:List Int} (hB:Jy B bs A.length) (hbs:bs.length≤65536) {X:List aa} (hX:Still X) {yB q0:List Int} {h0:Nat} {st0:Int} (hq0:Ak yB h0 q0) (hs0:stays l 0 q0=some st0)
 {E0:Tr} (g0:E0.get 0= .ptr d 0) (g7:E0.get 7= .uq (A.length+X.length) true 5 []) (g38:E0.get 38=B) (g39:E0.get 39= .pv (i64 bs.length)) (g40:E0.get 40= .pv (i64 0)):
 ke (fun r=>r.1.stop=true∧∃ (E:Tr) (nl:Bool) (Y:List aa) (buf q:List Int) (h:Nat) (st:Int) (out:List Ty) (sp:Bool),r=(.exit 0,⟨E,Fq A d c (xc T bad c st ((a0+Hw out:Nat):Int) Sb sp fin) (ee buf 8 h q.length) X (Re a0 out).length nl Y⟩)∧E.get 7= .uq (A.length+X.length) nl 5 (Re a0 out)∧Still Y∧Ak buf h q∧stays l 0 q=some st∧
  yn ss l (bad==3) q0 bs=(out,q,sp)∧(nl=true→out=[]))
  (ga call (.loop [0,7,38,39,40] Ye) ⟨E0,Fq A d c (xc T bad c st0 a0 Sb false fin) (ee yB 8 h0 q0.length) X 0 true []⟩):=by
 have hlB:=hB.len
 have hq8:=qD ta hpre ha hq0.iw hs0
 refine Zy (σ:=Nat×List Int×Nat×List Int×Int×List Ty×Bool) (fun x=>[(0,.ptr d 0),(7,.uq (A.length+X.length) x.2.2.2.2.2.2 5 (Re a0 x.2.2.2.2.2.1)),(38,B),(39,.pv (i64 bs.length)),(40,.pv (i64 x.1))])
  (fun x=>Fq A d c (xc T bad c x.2.2.2.2.1 ((a0+Hw x.2.2.2.2.2.1:Nat):Int) Sb false fin) (ee x.2.1 8 x.2.2.1 x.2.2.2.1.length) X (Re a0 x.2.2.2.2.2.1).length x.2.2.2.2.2.2 [])
  (fun k x=>x.1=k∧Ak x.2.1 x.2.2.1 x.2.2.2.1∧stays l 0 x.2.2.2.1=some x.2.2.2.2.1∧yn ss l (bad==3) q0 bs=(x.2.2.2.2.2.1++(yn ss l (bad==3) x.2.2.2.1 (bs.drop k)).1,(yn ss l (bad==3) x.2.2.2.1 (bs.drop k)).2)∧(x.2.2.2.2.2.2=true→x.2.2.2.2.2.1=[])∧Hw x.2.2.2.2.2.1+x.2.2.2.1.length≤q0.length+k∧x.2.2.2.2.2.1.length≤2 * k)
  bs.length (by unfold wa;omega) (fun _=>rfl) ?_ ?_ ?_ ?_
 ·rintro k x _
  have hl:∀ o1 o2 n nl,(Fq A d c o1 o2 X n nl []).length=A.length+X.length+1:=fun o1 o2 n nl=>by unfold Fq;rw[Oi];simp;omega
  rw[hl,hl]
  have:=h2.ld
  exact⟨by simp[Oq,Rr,Uy,hB.Wc (A.length+X.length+1) (by omega),show d < A.length+X.length+1 by omega,show A.length+X.length < A.length+X.length+1 by omega],fun o ho'=>Xs hA h2 (hX.Fq Still.nil) _ (by rw[Oi];simp;omega) o ho',rfl⟩
 ·exact⟨(0,yB,h0,q0,st0,[],true),⟨g0,g7,g38,g39,g40,trivial⟩,rfl,rfl,hq0,hs0,rfl,fun _=>rfl,by simp[Hw],Nat.le_refl _⟩
 ·rintro _ ⟨i,buf,h,q,st,out,nl⟩ E hi ⟨rfl,hq,hs,hf,hnl,hsz,hol⟩ ⟨g0,g7,g38,g39,g40,_⟩
  simp only at hi hq hs hf hnl hsz hol g0 g7 g38 g39 g40
  have hq8':=qD ta hpre ha hq.iw hs
  have hx:=hB.iw _ (List.getElem_mem hi)
  have hz:st=0↔q=[]:=⟨fun h=>YH ta hpre ha hq.iw (by rw[hs,h]),fun h=>by subst h;injection hs with hs;exact hs.symm⟩
  have e1:decide ((i:Int) < (bs.length:Int))=true:=Za (by omega)
  have t1:IntKind.i64.wrap ((i:Int)+1)=((i+1:Nat):Int):=Gh (by omega)
  have hia:=fun H=>hB.JS H i hi
  rw[List.drop_eq_getElem_cons hi,yn,hs,Option.getD_some] at hf
  generalize bs[i]=x at *
  have hX1:Still (X++[.tok 5 (Re a0 out).length nl]):=hX.app (Still.tok _ _ _)
  obtain⟨Bt,hBt⟩:∃ Bt,Bt=qk ss l (bad==3) q st x:=⟨_,rfl⟩
  obtain⟨r,hr,nl2,buf',h',st',Y,rfl,hq',hs',hY,hn2,hYn⟩:=vd (IN hT ta ho hA h2 h89 h81 h82 h83 (bad:=bad) (Sb:=Sb) (ea:=false) (fin:=fin) (at_:=a0+Hw out) (by omega) hq hq8' hs hz hx hX1 hBt)
  rw[← h90] at hr
  rw[← hBt] at hf
  have hb1:=cL (ss:=ss) (l:=l) (s:=bad==3) (h:=q) (st:=st) (x:=x)
  rw[← hBt] at hb1
  have hlx:(X++[aa.tok 5 (Re a0 out).length nl]).length=X.length+1:=by simp
  have hYl:0 < Y.length:=List.length_pos_iff.2 hYn
  have hone:bad=3→Bt.1.any El=true→Bt.1.length=1:=fun h3 hb=>by
   have e3:(bad==3)=true:=by rw[h3];rfl
   rw[e3] at hBt
   rw[hBt] at hb ⊢
   exact nM hb
  have hap:Qi A d c (xc T bad c st' ((a0+Hw out+(Bt.1.map (·.size)).sum:Nat):Int) Sb false fin) (ee buf' 8 h' Bt.2.length) ((X++[aa.tok 5 (Re a0 out).length nl])++Y)=Fq A d c (xc T bad c st' ((a0+Hw out+(Bt.1.map (·.size)).sum:Nat):Int) Sb false fin) (ee buf' 8 h' Bt.2.length) X (Re a0 out).length nl Y:=by
   unfold Fq;rw[List.append_assoc];rfl
  rw[hap,hlx] at hr
  have hr':call 90 [.ptr d 0,.pv (u8 x)] (Fq A d c (xc T bad c st ((a0+Hw out:Nat):Int) Sb false fin) (ee buf 8 h q.length) X (Re a0 out).length nl [])=some (.uq (A.length+(X.length+1)) nl2 5 (Re (a0+Hw out) Bt.1),Fq A d c (xc T bad c st' ((a0+Hw out+(Bt.1.map (·.size)).sum:Nat):Int) Sb false fin) (ee buf' 8 h' Bt.2.length) X (Re a0 out).length nl Y):=hr
  have hin:=fun E0=>VI (call:=call) (bad:=bad) (st:=st') (at_:=((a0+Hw out+(Bt.1.map (·.size)).sum:Nat):Int)) (Sb:=Sb) (fin:=fin) (buf:=buf') (h:=h') (m:=Bt.2.length) hA h2 (T:=T) hX (p:=a0+Hw out) hone hb1.1 (out:=Re a0 out) (by rw[Ap];omega) (nl:=nl) (nl2:=nl2) hY (B:=B) (n:=bs.length) (i:=i) (id2:=A.length+(X.length+1)) (by omega) (hB.Wc _ (by omega)) (E0:=E0)
  have happ:Re a0 out++Re (a0+Hw out) Bt.1=Re a0 (out++Bt.1):=(rF a0 out Bt.1).symm
  have hszs:a0+Hw out+(Bt.1.map (·.size)).sum=a0+Hw (out++Bt.1):=by rw[bK];show _+_+Hw Bt.1=_;omega
  have hszb:(Bt.1.map (·.size)).sum=Hw Bt.1:=rfl
  generalize hQ:RH _ _ _ _=Q
  simp -implicitDefEqProofs only[SX,sevalprocAttr,-List.reduceReplicate,Ye,g0,g7,g38,g39,g40,e1,hia,Bg,hr',cE]
  refine Wa (hin _ (by simp[Tr.ba,g0]) (by simp[Tr.ba,g7]) (by simp[Tr.ba,g38]) (by simp[Tr.ba,g39]) (by simp[Tr.ba,g40]) (by simp[Tr.ba]) (by simp[Tr.ba,Ap]) (by simp[Tr.ba])) ?_
  rintro r ⟨_,E2,nl3,Y3,rfl,hY3,r0,r7,r38,r39,r40,rn⟩
  rw[happ] at r7
  rw[happ,hszs]
  by_cases hsp:bad=3∧Bt.1.any El=true
  ·have e3:(bad==3)=true:=by rw[hsp.1];rfl
   rw[if_pos hsp,decide_eq_true hsp]
   simp -implicitDefEqProofs only[SX,sevalprocAttr,-List.reduceReplicate]
   subst hQ
   simp only[e3,hsp.2,Bool.and_self,if_true] at hf
   refine⟨E2,nl3,Y3,buf',Bt.2,h',st',out++Bt.1,true,rfl,r7,hY3,hq',hs',by rw[e3];exact hf,fun h=> ?_⟩
   rw[hnl (rn h).1,(rn h).2];rfl
  ·have e3:(bad==3&&Bt.1.any El)=false:=by
    cases hb:(bad==3) with
    |false=>rfl
    |true=>
     have:bad=3:=by simpa using hb
     cases hc:Bt.1.any El with
     |false=>rfl
     |true=>exact absurd ⟨this,hc⟩ hsp
   rw[if_neg hsp,decide_eq_false hsp]
   simp -implicitDefEqProofs only[SX,sevalprocAttr,-List.reduceReplicate,r0,r7,r38,r39,r40,t1]
   subst hQ
   rw[e3,if_neg (by simp)] at hf
   refine⟨(i+1,buf',h',Bt.2,st',out++Bt.1,nl3),Y3,by simp[Has,Tr.ba,r0,r7,r38,r39],?_,rfl,hq',hs',?_,fun h=> ?_,?_,?_⟩
   ·show _=Qi _ _ _ _ _ _++_
    rw[Jn,List.append_assoc];rfl
   ·rw[hf];simp only[List.append_assoc]
   ·rw[hnl (rn h).1,(rn h).2];rfl
   ·have:=hb1.2.2.1
    show Hw (out++Bt.1)+Bt.2.length≤_
    rw[bK];omega
   ·show (out++Bt.1).length≤_
    rw[List.length_append];omega
 ·rintro⟨i,buf,h,q,st,out,nl⟩ E ⟨rfl,hq,hs,hf,hnl,hsz,hol⟩ ⟨g0,g7,g38,g39,g40,_⟩
  simp only at hq hs hf hnl hsz hol g0 g7 g38 g39 g40 ⊢
  have e1:decide ((bs.length:Int) < (bs.length:Int))=false:=mb (by omega)
  rw[List.drop_length,yn,List.append_nil] at hf
  generalize hQ:(fun r:Ex×St=>r.1.stop=true∧_)=Q
  simp -implicitDefEqProofs only[SX,sevalprocAttr,-List.reduceReplicate,Ye,g39,g40,e1]
  subst hQ
  exact⟨rfl,_,nl,[],buf,q,h,st,out,false,rfl,by simp[Tr.ba,g7],Still.nil,hq,hs,hf,hnl⟩
structure iS where
 buf:List Int
 h:Nat
 q:List Int
 st:Int
 at_:Nat
 Sb:Int
 ea:Bool
 fin:Bool
omit hT ta ho hpre ha hA h2 h90 h89 h81 h82 h83 in
theorem QD {s:iS} {T:PV} (hd:A[d]? =some (xc T bad c s.st s.at_ s.Sb s.ea s.fin)) (hc:A[c]? =some (ee s.buf 8 s.h s.q.length)) {U:AV} {bs:List Int} {n0:Nat} (hU:Jy U bs n0) (ht0:0≤s.Sb) (ht1:s.Sb≤65536)
 {e:Int} (he:e=if s.fin then 181 else if s.ea then 182 else if (bs.length:Int) > 65536 - s.Sb then 183 else 0) (h0:e≠0):
 Hd call wb [.ptr d 0,U] A=some (.pv (.bc [.qa,i64 e]),A):=by
 have lU:=hU.len
 have tp:=Vr hd hc
 have pd:=Ox hd
 have ld:=Zs hd
 have hf:=Eu (T:=T) (bad:=bad) (C:= .rp (mf s.buf 8 s.h s.q.length) 0) (st:=s.st) (at_:=s.at_) (Sb:=s.Sb) (ea:=s.ea) (fin:=s.fin)
 have w1:IntKind.i64.wrap (65536 - s.Sb)=65536 - s.Sb:=Da (by omega)
 have hm:∀ a b:PV,Ep [.pv a,.pv b]= .pv (.bc [a,b]):=fun _ _=>rfl
 have fl:∀ n:Int,bh (i64 n)=true:=fun n=>rfl
 generalize Bl T bad (.rp (mf s.buf 8 s.h s.q.length) 0) s.st s.at_ s.Sb s.ea s.fin=row at *
 obtain⟨f,hfe⟩:∃ f:Int,f=if s.fin then 181 else if s.ea then 182 else 0:=⟨_,rfl⟩
 rw[← hfe] at hf
 by_cases hf0:f=0
 ·have hfin:s.fin=false:=by cases h:s.fin with | false=>rfl | true=>rw[h,if_pos rfl] at hfe;omega
  have hsto:s.ea=false:=by cases h:s.ea with | false=>rfl | true=>rw[hfin,h,if_neg (by simp),if_pos rfl] at hfe;omega
  rw[hfin,hsto,if_neg (by simp),if_neg (by simp)] at he
  have hgt:(bs.length:Int) > 65536 - s.Sb:=Decidable.byContradiction fun h=>by rw[if_neg h] at he;exact h0 he
  rw[if_pos hgt] at he
  subst he
  subst hf0
  have d1:decide ((bs.length:Int) > 65536 - s.Sb)=true:=decide_eq_true hgt
  have z0:((0:Int)==0)=true:=rfl
  have z1:((183:Int) != 0)=true:=rfl
  simp -implicitDefEqProofs only[SP,WP,sevalprocAttr,-List.reduceReplicate,wb,lU,tp,pd,ld,hf,fl,w1,d1,z0,z1,hm]
 ·have hef:e=f:=by
   rw[he,hfe]
   cases h:s.fin with
   |true=>rfl
   |false=>
    cases h':s.ea with
    |true=>rfl
    |false=>rw[hfe,h,h'] at hf0;exact absurd rfl hf0
  subst hef
  have z0:(e==0)=false:=beq_false_of_ne hf0
  have z1:(e != 0)=true:=by simp[hf0]
  simp -implicitDefEqProofs only[SP,WP,sevalprocAttr,-List.reduceReplicate,wb,lU,tp,pd,ld,hf,fl,z0,z1,hm]
theorem ND {s:iS} (hd:A[d]? =some (xc T bad c s.st s.at_ s.Sb false false)) (hc:A[c]? =some (ee s.buf 8 s.h s.q.length)) (hq:Ak s.buf s.h s.q) (hs:stays l 0 s.q=some s.st) {U:AV} {bs:List Int} (hU:Jy U bs A.length)
 (ht0:0≤s.Sb) (ht1:s.Sb+bs.length≤65536) (hat:s.at_≤65536):
 ke (fun r=>∃ (nl:Bool) (Y:List aa) (buf q:List Int) (h:Nat) (st:Int) (out:List Ty) (sp:Bool),r=(.bc [.uq A.length nl 5 (Re s.at_ out),.pv (i64 0)],Qi A d c (xc T bad c st ((s.at_+Hw out:Nat):Int) (s.Sb+bs.length) sp false) (ee buf 8 h q.length) Y)∧Still Y∧Ak buf h q∧stays l 0 q=some st∧
  yn ss l (bad==3) s.q bs=(out,q,sp)∧(nl=true→out=[])∧0 < Y.length)
  (Hd call wb [.ptr d 0,U] A):=by
 have lU:=hU.len
 have tp:=Vr hd hc
 have pd:=Ox hd
 have ld:=Zs hd
 have hf:=Eu (T:=T) (bad:=bad) (C:= .rp (mf s.buf 8 s.h s.q.length) 0) (st:=s.st) (at_:=s.at_) (Sb:=s.Sb) (ea:=false) (fin:=false)
 rw[if_neg (by simp),if_neg (by simp)] at hf
 have w1:IntKind.i64.wrap (65536 - s.Sb)=65536 - s.Sb:=Da (by omega)
 have w2:IntKind.i64.wrap (s.Sb+(bs.length:Int))=s.Sb+bs.length:=Da (by omega)
 have fl:∀ n:Int,bh (i64 n)=true:=fun n=>rfl
 have d1:decide ((bs.length:Int) > 65536 - s.Sb)=false:=decide_eq_false (by omega)
 have z0:((0:Int)==0)=true:=rfl
 have z1:((0:Int) != 0)=false:=rfl
 have s5:Pa A 1 (.ptr d 5) (.pv (.int .i64 (s.Sb+bs.length)))=some (Qi A d c (xc T bad c s.st s.at_ (s.Sb+bs.length) false false) (ee s.buf 8 s.h s.q.length) []):=by
  rw[dT hd]
  congr 1
  unfold Qi
  rw[List.append_nil]
  obtain⟨hl,hg⟩:=List.getElem?_eq_some_iff.1 hc
  have:(A.set d (xc T bad c s.st s.at_ (s.Sb+bs.length) false false))[c]? =some (ee s.buf 8 s.h s.q.length):=by rw[List.getElem?_set_ne h2.ne];exact hc
  obtain⟨hl',hg'⟩:=List.getElem?_eq_some_iff.1 this
  rw[← hg'];exact (List.set_getElem_self _).symm
 have gh:∀ E:Tr,E.get 7= .pv .qa→∀ o1 o2,ff (.NF 7 5) ⟨E,Qi A d c o1 o2 []⟩=some ⟨E.set 7 (.uq A.length true 5 []),Fq A d c o1 o2 [] 0 true []⟩:=fun E h o1 o2=>by
  simp only[ff,h,Oi,Jn];rfl
 have hloop:=fun E0=>sH (call:=call) (call':=call') (call'':=call'') (call3:=call3) hT ta ho hpre ha hA h2 h90 h89 h81 h82 h83 (bad:=bad) (Sb:=s.Sb+bs.length) (fin:=false) (a0:=s.at_) hat hU (by omega) (X:=[]) Still.nil hq hs (E0:=E0)
 generalize Bl T bad (.rp (mf s.buf 8 s.h s.q.length) 0) s.st s.at_ s.Sb false false=row at *
 generalize hQ:(fun r:AV×List aa=>∃ (nl:Bool) (Y:List aa) (buf q:List Int) (h:Nat) (st:Int) (out:List Ty) (sp:Bool),r=_∧_)=Q
 simp -implicitDefEqProofs only[SP,WP,sevalprocAttr,-List.reduceReplicate,wb,lU,tp,pd,ld,hf,fl,w1,d1,z0,z1,w2,s5,Ry,gh,Tr.ba]
 refine Wa (hloop _ (by simp[Tr.ba]) (by simp[Tr.ba]) (by simp[Tr.ba]) (by simp[Tr.ba]) (by simp[Tr.ba])) ?_
 rintro r ⟨_,E,nl,Y,buf,q,h,st,out,sp,rfl,r7,hY,rq,rs,rf,rn⟩
 simp -implicitDefEqProofs only[SP,WP,sevalprocAttr,-List.reduceReplicate,r7]
 subst hQ
 exact⟨nl,.tok 5 (Re s.at_ out).length nl::Y,buf,q,h,st,out,sp,rfl,(Still.tok _ _ _).cons hY,rq,rs,rf,rn,by simp⟩
end
end Go.AM.B1
namespace Go.AM.B1
open Go.AM Go.AM.So
theorem sD {ss:List ec} (h:∀ s∈ss,∀ l∈s.parts,l.length≤1000) (h2:∀ s∈ss,s.parts.length≤1000) (h3:ss.length≤1000):Ld (.lit 2 (ss.map Ed)) ss (ss.map Ed):=by
 refine⟨.inr rfl,by rw[List.length_map],fun k e s he hs=> ?_,by unfold maxLen;omega⟩
 rw[List.getElem?_map,hs] at he
 injection he with he
 have hm:=List.mem_of_getElem? hs
 refine⟨_,_,he.symm,.inr rfl,by rw[List.length_map],fun j v l hv hl=> ?_,by have:=h2 s hm;unfold maxLen;omega⟩
 rw[List.getElem?_map,hl] at hv
 injection hv with hv
 have:=h s hm l (List.mem_of_getElem? hl)
 exact⟨.inr hv.symm,by omega⟩
theorem TF {ss:List ec} {l:List (List je)} {a b c d:Int} (hh:Ld (.lit 2 (ss.map Ed)) ss (ss.map Ed)) (hv:Ee [.agg [.lit 2 (ss.map Ed)]]=some (.bool true)) (hp:Gd [.agg [.lit 2 (ss.map Ed)]]=some (.bc [.agg [.bool true,i64 a,i64 b],i64 0]))
 (hi:ni [.agg [.lit 2 (ss.map Ed)]]=some (.bc [.agg [.bool true,i64 c,i64 d],i64 0])) (ha:Ck ss=some l):
 ue ss∧∃ T,tg [.agg [.lit 2 (ss.map Ed)]]=some (.bc [T,i64 0])∧er T ss l∧∀ e∈l,Qj e:=by
 obtain⟨x,h1,h2⟩:=Ti hh
 rw[hv] at h1
 injection h1 with h1
 injection h1 with h1
 have ta:=h2.1 h1.symm
 obtain⟨y,a',b',h3,h4⟩:=(bB hh).2 ta
 rw[hp] at h3
 injection h3 with h3
 injection h3 with h3
 injection h3 with h3 _
 injection h3 with h3
 injection h3 with h3 _
 injection h3 with h3
 have hpre:=h4.1 h3.symm
 obtain⟨T,t1,t2⟩:=uI hh ta hpre ha hi
 exact⟨ta,T,t1,t2,qF ta hpre ha⟩
end Go.AM.B1
namespace Go.AM.B1
open Go.AM Go.AM.So
theorem PR.of {T:PV} {ss:List ec} {l:List (List je)} (hT:er T ss l) (ta:ue ss):PR T fun u=>qP u ss:=by
 refine⟨fun u=>mO hT ta u,fun u b h=> ?_,?_⟩
 ·obtain⟨s,hs,h1,h2,rfl,_⟩:=bH ta.my h
  have hk:=ta.my s hs
  have:=(Er s.parts (u - s.first) 0 hk.parts (by omega) (by omega)).2.1
  have:=hk.hi
  omega
 ·obtain⟨S',NX,DG,RW,h,_⟩:=hT.ex
  exact⟨_,h⟩
section
variable {H:List aa} {T:PV} {cd:Int→Option (List Int)} {call:Fa}
end
def xl:List ec:=[⟨[[(0,127)]],0⟩,⟨[[(194,223)],[(128,191)]],128⟩,⟨[[(225,225)],[(128,191)],[(128,191)]],4096⟩]
theorem yF:Ee [.agg [.lit 2 (xl.map Ed)]]=some (.bool true):=by kernel_rfl
theorem ID:Gd [.agg [.lit 2 (xl.map Ed)]]=some (.bc [.agg [.bool true,i64 0,i64 0],i64 0]):=by kernel_rfl
theorem fD:ni [.agg [.lit 2 (xl.map Ed)]]=some (.bc [.agg [.bool true,i64 0,i64 0],i64 0]):=by kernel_rfl
def bo:List (List je):=[[⟨0,127,-1⟩,⟨194,223,1⟩,⟨225,225,2⟩],[⟨128,191,-1⟩],[⟨128,191,1⟩]]
theorem bw:Ck xl=some bo:=by kernel_rfl
end Go.AM.B1
