/- What functions of the program compute. -/
import Derived.Test.YtdglpnpkgngcdaaGreatQ9
import Derived.Test.YtdglpnpkgngcdaaGreatQ13
import Derived.Test.YtdglpnpkgngcdaaGreatQ3
import Derived.Test.YtdglpnpkgngcdaaGreatQ12
import Derived.Test.YtdglpnpkgngcdaaGreatQ1
import Derived.Test.YtdglpnpkgngcdaaGreatQ11
set_option linter.unusedVariables false
set_option linter.unusedSimpArgs false
namespace Go.AM.B1
open Go.AM Go.AM.So
end Go.AM.B1
namespace Go.AM.B1
open Go.AM Go.AM.So
theorem rW {ss:List dc} (Aa:Hc ss) (hinj:Ql ss) {i j:Nat} (hi:i < ss.length) (hj:j < ss.length) {w:List Nat} (hw:Bytes w) (h1:Full ss[i] w) (h2:Full ss[j] w):i=j:=by
 have key:∀ i j (hi:i < ss.length) (hj:j < ss.length),i < j→Full ss[i] w→Full ss[j] w→False:=by
  intro i j hi hj hlt h1 h2
  have e:ss[i].parts.length=ss[j].parts.length:=by rw[← h1.2,←h2.2]
  have:=hinj i j hi hj hlt e
  rw[NK (Aa.As _ (List.getElem_mem hi)) (Aa.As _ (List.getElem_mem hj)) (by omega) hw h1 h2.1] at this
  cases this
 rcases Nat.lt_trichotomy i j with h | h | h
 ·exact (key i j hi hj h h1 h2).elim
 ·exact h
 ·exact (key j i hj hi h h2 h1).elim
theorem mO {b:List Int}:∀ {ss:List dc} {i:Nat} (hi:i < ss.length) {k:Int},Nf ss[i] b=some k→(∀ j (hj:j < ss.length),(Nf ss[j] b).isSome→j=i)→Is b ss=some (ss[i].first+k)
 |s::ss,0,_,k,hk,_=>by
  have hk:Nf s b=some k:=hk
  rw[Is,hk];rfl
 |s::ss,i+1,hi,k,hk,h=>by
  have hn:Nf s b=none:=by
   cases hr:Nf s b with
   |none=>rfl
   |some x=>have:=h 0 (by simp) (by show (Nf s b).isSome=true;rw[hr];rfl);omega
  rw[Is,hn]
  exact mO (ss:=ss) (i:=i) (by simpa using hi) hk fun j hj hs=>by have:=h (j+1) (by simpa using hj) hs;omega
theorem IB:∀ (ls:List (List (Int×Int))) (bs:List Int) (n r:Int),(∀ l∈ls,zc l)→bs.length=ls.length→Ag ls bs n=some r→we ls (r - n)=bs
 | [],bs,n,r,_,hl,h=>by
   cases bs with
   |nil=>rfl
   |cons=>cases hl
 |l::ls,[],n,r,_,hl,_=>by cases hl
 |l::ls,x::bs,n,r,hp,hl,h=>by
  have hpl:=hp l (by simp)
  have hpr:=fun y (hy:y∈ls)=>hp y (by simp[hy])
  rw[Ag] at h
  split at h
  ·next hc=>
   have hb:=fm (x:=x) (n:=0) hpl.2 hc
   have hp1:=Cd hpr
   obtain⟨b1,b2⟩:=Lp ls bs _ _ hpr h
   have ih:=IB ls bs _ r hpr (by simpa using hl) h
   obtain⟨d,hd⟩:∃ d,d=(Md x 0 l).1:=⟨_,rfl⟩
   rw[← hd] at hb b1 b2 ih h
   have hm0:0≤d * Ca ls:=Int.mul_nonneg hb.1 (by omega)
   have e1:(r - n).tdiv (Ca ls)=d:=by
    rw[Int.tdiv_eq_ediv_of_nonneg (by omega)]
    have:r - n=(r - (n+d * Ca ls))+d * Ca ls:=by omega
    rw[this,Int.add_mul_ediv_right _ _ (by omega),Int.ediv_eq_zero_of_lt (by omega) (by omega),Int.zero_add]
   have e2:(r - n).tmod (Ca ls)=r - (n+d * Ca ls):=by
    rw[Int.tmod_eq_emod_of_nonneg (by omega)]
    have:r - n=(r - (n+d * Ca ls))+d * Ca ls:=by omega
    rw[this,Int.add_mul_emod_self_right,Int.emod_eq_of_lt (by omega) (by omega)]
   rw[we,e1,e2,ih]
   congr 1
   obtain⟨y,q1,_,_,_,q5⟩:=Rp hpl.2 (k:=d) hb.1 (by omega)
   rw[q1,Option.getD_some]
   obtain⟨k1,g1,g2⟩:=Em (n:=0) hpl.2 hc
   obtain⟨k2,g3,g4⟩:=Em (n:=0) (x:=y) hpl.2 (by rw[q5])
   rw[q5] at g4
   simp only at g4
   have:k1=k2:=by omega
   subst this
   rw[g1] at g3
   exact (Option.some.inj g3).symm
  ·cases h
theorem wM {s:dc} (h:Nd s) {b:List Int} {k:Int} (hk:Nf s b=some k):has s (s.first+k)∧we s.parts k=b:=by
 unfold Nf at hk
 split at hk
 ·next hl=>
  obtain⟨h1,h2⟩:=Lp _ _ _ _ h.parts hk
  have:=IB _ _ _ _ h.parts hl hk
  rw[Int.sub_zero] at this
  exact⟨⟨by omega,by omega⟩,this⟩
 ·cases hk
theorem QO {ss:List dc} (Aa:Hc ss) (hinj:Ql ss) {w:List Nat} (hw:Bytes w) {i:Nat} (hi:i < ss.length) (h:(Nf ss[i] (AW w)).isSome) (j:Nat) (hj:j < ss.length) (h2:(Nf ss[j] (AW w)).isSome):j=i:=
 rW Aa hinj hj hi hw ((wD (Aa.As _ (List.getElem_mem hj)) w).1 h2) ((wD (Aa.As _ (List.getElem_mem hi)) w).1 h)
theorem qS (x:ByteArray):(x.data.toList==x.data.toList)=true:=by simp
end Go.AM.B1
namespace Go.AM.B1
open Go.AM Go.AM.So
theorem NF {v:PV} {l:List (Int×Int)} (hv:Di 2 v (de l)) (hw:l.length * 16≤140737488355328) {x:Int} (h0:0≤x) (h1:x≤255):
 Hg [v,i64 x]=some (.Zb (if Uf l x.toNat then [i64 (fh (Uf l) x.toNat),.bool true] else [i64 0,.bool false])):=by
 have hm:=wo hv hw
 have hhas:=fw hv hw x
 rw[show decide (0≤x)=true from Da h0,show decide (x≤255)=true from Da h1,Bool.true_and,Bool.true_and] at hhas
 obtain⟨y,rfl⟩:=Int.eq_ofNat_of_zero_le h0
 rw[Int.toNat_natCast] at *
 generalize Uf l=f at *
 cases hf:f y with
 |false=>
  rw[hf] at hhas
  simp -implicitDefEqProofs only[Hg,SX,sevalprocAttr,-List.reduceReplicate,si,hhas,Bool.false_eq_true,if_false]
 |true=>
 rw[hf] at hhas
 have pl:=fun (x:Nat)=>Xh (A:=[mb (ae f)]) (id:=0) (es:=ae f) rfl 0 x
 have hO:RD 1 (mb (ae f))=true:=bL _ _
 have hloop:=fun (E:Tr) (h1:E.get 1= .pv (i64 y)) (h6:E.get 6= .ptr 0 0) (h7:E.get 7= .pv (i64 0)) (h8:E.get 8= .pv (i64 0))=>
  Mo (call:=Ga (fun _=>none) 8) (b:=zf) (live:=[1,6,7,8]) (E0:=E) (H0:=[mb (ae f)]) (Q:=fun r=>∃ E H,r=(.exit 0,⟨E,H⟩)∧E.get 7= .pv (i64 (fh f y)))
   (fun i:Nat=>[(1,.pv (i64 y)),(6,.ptr 0 0),(7,.pv (i64 (fh f i))),(8,.pv (i64 i))]) (fun _=>[mb (ae f)]) (fun i x=>x=i) y (by unfold oa;omega) (fun _=>rfl)
   (fun i x _=>⟨by simp[Vn,Vz],yt (by simp[hO]),rfl⟩) ⟨0,⟨h1,h6,h7,h8,trivial⟩,rfl,rfl⟩
   (by
    rintro i x E hi rfl ⟨g1,g6,g7,g8,_⟩
    have e1:decide ((x:Int) < (y:Int))=true:=Da (by omega)
    have hq:Fa (x:Int) 256:=by unfold Fa;omega
    have t1:((x:Int)).toNat=x:=by simp
    have m1:x * 1=x:=by omega
    have t2:IntKind.i64.wrap ((x:Int)+1)=((x+1:Nat):Int):=Ba (by omega)
    have hle:=tH f x
    have t3:IntKind.i64.wrap ((fh f x:Int)+1)=(fh f x:Int)+1:=Ba (by omega)
    have pl:=pl x
    rw[Nat.zero_add] at pl
    have ld:=Et (A:=[mb (ae f)]) (id:=0) (es:=ae f) rfl (Yz f (x:=x) (by omega))
    have hs:=vl f x
    generalize mb (ae f)=O at *
    generalize hQ:RH _ _ _ _=Q
    cases hfx:f x with
    |true=>
     rw[hfx] at hs ld
     simp -implicitDefEqProofs only[SX,sevalprocAttr,-List.reduceReplicate,zf,g1,g6,g7,g8,e1,eq_true hq,t1,m1,pl,ld,t2,t3]
     subst hQ
     exact⟨x+1,[],by rw[if_pos rfl] at hs;simp[Has,Tr.aa,g1,g6,hs],rfl,rfl⟩
    |false=>
     rw[hfx] at hs ld
     simp -implicitDefEqProofs only[SX,sevalprocAttr,-List.reduceReplicate,zf,g1,g6,g7,g8,e1,eq_true hq,t1,m1,pl,ld,t2]
     subst hQ
     exact⟨x+1,[],by rw[if_neg (by simp)] at hs;simp[Has,Tr.aa,g1,g6,g7,hs],rfl,rfl⟩)
   (by
    rintro x E rfl ⟨g1,g6,g7,g8,_⟩
    have e1:decide ((x:Int) < (x:Int))=false:=Ha (by omega)
    generalize mb (ae f)=O at *
    generalize hQ:(fun r:Ex×St=>r.1.stop=true∧_)=Q
    simp -implicitDefEqProofs only[SX,sevalprocAttr,-List.reduceReplicate,zf,g1,g8,e1]
    subst hQ
    exact⟨rfl,_,_,rfl,by simp[Tr.aa,g7]⟩)
 have hz1:ba.box (List.map AV.pv (List.replicate 256 (PV.bool false)))=mb (ae fun _=>false):=by rw[Rs]
 have st:Ra [mb (ae fun _=>false)] 256 (.ptr 0 0) (.pv (.agg (ae f)))=some [mb (ae f)]:=ml (id:=0) rfl (Dk _) (Dk f) (BC f)
 rw[if_pos rfl]
 generalize fh f y=c at *
 generalize hzs:List.replicate 256 (PV.bool false)=zs at *
 generalize mb (ae fun _=>false)=oz at *
 generalize mb (ae f)=ot at *
 generalize ae f=T at *
 apply Lk
 generalize hQ:(fun x=>x=PV.Zb _)=Q
 simp -implicitDefEqProofs only[Hg,SX,sevalprocAttr,-List.reduceReplicate,si,hhas,hzs,hz1,hm,st]
 refine xa (hloop _ (by simp[Tr.aa]) (by simp[Tr.aa]) (by simp[Tr.aa]) (by simp[Tr.aa])) ?_
 rintro r ⟨_,E,H,rfl,q7⟩
 simp -implicitDefEqProofs only[SX,sevalprocAttr,-List.reduceReplicate,q7]
 subst hQ
 rfl
def Uv:List (List (Int×Int))→List Int→Int→Option Int
 |l::r,x::b,k=>if (Md x 0 l).2=true then Uv r b (k * Sb 0 l+(Md x 0 l).1) else none
 |_,_,k=>some k
theorem FE:∀ (ls:List (List (Int×Int))) (bs:List Int) (k:Int),bs.length=ls.length→Uv ls bs k=Ag ls bs (k * Ca ls)
 | [],[],k,_=>by simp[Uv,Ag,Ca]
 | [],_::_,k,h=>by simp at h
 |_::_,[],k,h=>by simp at h
 |l::r,x::b,k,h=>by
  rw[Uv,Ag]
  split
  ·rw[FE r b _ (by simpa using h),Ca]
   congr 1
   rw[Int.add_mul,Int.mul_assoc,Int.mul_comm (Sb 0 l)]
  ·rfl
theorem iU {l:List (Int×Int)} (h:zc l) {x:Int} (h0:0≤x) (h1:x≤255):(if Uf l x.toNat then [i64 (fh (Uf l) x.toNat),.bool true] else [i64 0,.bool false])=(if (Md x 0 l).2=true then [i64 (Md x 0 l).1,.bool true] else [i64 0,PV.bool false]):=by
 have e:Uf l=Wp l:=by funext y;rw[Uf,h.2,Bool.true_and]
 cases hr:(Md x 0 l).2 with
 |true=>
  obtain⟨r1,r2⟩:=nE (n:=0) (m:=(Md x 0 l).1) h0 h.2 (by rw[← hr])
  rw[e,r1,if_pos rfl,if_pos rfl,r2,Int.zero_add]
 |false=>
  have:Uf l x.toNat=false:=by
   cases hm:Uf l x.toNat with
   |false=>rfl
   |true=>
    rw[e,Pp,Int.toNat_of_nonneg h0] at hm
    have:=(bA (n:=0) h.2).2 hm
    rw[hr] at this;cases this
  rw[this];rfl
theorem pR {k s d Q N:Int} (h0:0≤k) (hd:d < s) (hd0:0≤d) (hQ:1≤Q) (hs:s≤256) (hN:(k+1) * (Q * s)≤N) (hN2:N≤1073741824):0≤k * s+d∧(k * s+d+1) * Q≤N∧k≤1073741824∧k * s+d≤1073741824∧0≤k * s∧k * s≤1073741824:=by
 have h1:0≤k * s:=Int.mul_nonneg h0 (by omega)
 have h2:k * s+d+1≤(k+1) * s:=by rw[Int.add_mul];omega
 have h3:(k * s+d+1) * Q≤(k+1) * s * Q:=Int.mul_le_mul_of_nonneg_right h2 (by omega)
 have h4:(k+1) * s * Q=(k+1) * (Q * s):=by rw[Int.mul_assoc,Int.mul_comm s]
 have h5:(k * s+d+1) * 1≤(k * s+d+1) * Q:=Int.mul_le_mul_of_nonneg_left hQ (by omega)
 have h6:k * 1≤k * s:=Int.mul_le_mul_of_nonneg_left (by omega) h0
 omega
theorem zF {e:PV} {s:dc} {P:PV} {ps:List PV} (h:pf e s P ps) (Aa:Nd s) {B:PV} {bs:List Int} (hB:Vj B bs):
 Jg [e,B]=some (.Zb (match Nf s bs with | some k=>[i64 k,.bool true] | none=>[i64 0,.bool false])):=by
 have hcn:=Hm h Aa
 rw[Aa.prod.1] at hcn
 have hpr:=Aa.prod.2
 have hp1:=Cd Aa.parts
 have hP1:=h.Mv.1
 have hP:=h.parts
 have h8:=Aa.hi
 have lP:=hP.Wb
 have lB:=hB.Wb
 have heq:=h.eq
 subst heq
 have d0:(Ca s.parts==0)=false:=beq_false_of_ne (by omega)
 unfold Nf
 by_cases hl:bs.length=s.parts.length
 ·rw[if_pos hl]
  have hG:=FE s.parts bs 0 hl
  rw[Int.zero_mul] at hG
  rw[← hG]
  have d1:((bs.length:Int) != (s.parts.length:Int))=false:=by rw[hl];simp
  have hloop:=fun (E:Tr) (h1:E.get 1= .pv B) (h2:E.get 2= .pv (.rp [P,i64 s.first] 0)) (h6:E.get 6= .pv (i64 0)) (h7:E.get 7= .pv (i64 0))=>
   Mo (call:=Ga (fun _=>none) 8) (b:=Bf) (live:=[1,2,6,7]) (E0:=E) (H0:=[]) (Q:=fun r=>(∃ E k,r=(.exit 0,⟨E,[]⟩)∧Uv s.parts bs 0=some k∧E.get 6= .pv (i64 k))∨∃ E,r=(.ret,⟨E,[]⟩)∧Uv s.parts bs 0=none∧E.get 4= .pv (i64 0)∧E.get 5= .pv (.bool false))
    (fun x:Nat×Int=>[(1,.pv B),(2,.pv (.rp [P,i64 s.first] 0)),(6,.pv (i64 x.2)),(7,.pv (i64 x.1))]) (fun _=>[])
    (fun i x=>x.1=i∧0≤x.2∧(x.2+1) * Ca (s.parts.drop i)≤Ca s.parts∧Uv s.parts bs 0=Uv (s.parts.drop i) (bs.drop i) x.2) bs.length (by unfold oa;omega) (fun _=>rfl)
    (fun i x _=>⟨by simp[Vn],yt rfl,rfl⟩) ⟨(0,0),⟨h1,h2,h6,h7,trivial⟩,rfl,rfl,Int.le_refl _,by simp,rfl⟩
    (by
     rintro _ ⟨i,k⟩ E hi ⟨rfl,k0,k1,k2⟩ ⟨g1,g2,g6,g7,_⟩
     simp only at hi k0 k1 k2 g1 g2 g6 g7
     have hip:i < s.parts.length:=by omega
     obtain⟨v,hv,hpt,_⟩:=hP.pd hip []
     have a1:=hP.Hw hv
     have a2:=hB.pd hi
     have hpo:=Aa.parts _ (List.getElem_mem hip)
     have hbb:=hB.RB _ (List.getElem_mem hi)
     have hss:=Eu hpt.is hpt.sz
     rw[gD hpo.2] at hss
     have hsb:=qf hpo
     have hrk:=NF hpt.is hpt.sz (x:=bs[i]) hbb.1 hbb.2
     rw[iU hpo hbb.1 hbb.2] at hrk
     have hQ:=Cd (ls:=s.parts.drop (i+1)) fun x hx=>Aa.parts x (List.mem_of_mem_drop hx)
     rw[List.drop_eq_getElem_cons hip,Ca] at k1
     rw[List.drop_eq_getElem_cons hip,List.drop_eq_getElem_cons hi,Uv] at k2
     have hbd:=fm (x:=bs[i]) (n:=0) hpo.2
     have e1:decide ((i:Int) < (bs.length:Int))=true:=Da (by omega)
     have w1:IntKind.i64.wrap ((i:Int)+1)=((i+1:Nat):Int):=mj (by omega)
     have w2:IntKind.i64.wrap bs[i]=bs[i]:=Ba (by omega)
     generalize Md bs[i] 0 s.parts[i]=rk at *
     generalize bs[i]=x at *
     generalize Sb 0 s.parts[i]=sz at *
     generalize hQQ:RH _ _ _ _=Q
     obtain⟨d,is⟩:=rk
     cases is with
     |false=>
      rw[if_neg (by simp)] at hrk k2
      simp -implicitDefEqProofs only[SX,sevalprocAttr,-List.reduceReplicate,Bf,g1,g2,g6,g7,lB,e1,Vb,Cc,a1,a2,Pa,w2,hrk]
      subst hQQ
      exact .inr ⟨_,rfl,k2,by simp[Tr.aa],by simp[Tr.aa]⟩
     |true=>
      rw[if_pos rfl] at hrk k2
      have hbd:=hbd rfl
      simp only at hbd hrk k2
      obtain⟨s1,s2,s3,s4,s5,s6⟩:=pR k0 (by omega) hbd.1 hQ hsb.2 k1 hpr
      have w3:IntKind.i64.wrap (k * sz)=k * sz:=Ba (by omega)
      have w4:IntKind.i64.wrap (k * sz+d)=k * sz+d:=Ba (by omega)
      simp -implicitDefEqProofs only[SX,sevalprocAttr,-List.reduceReplicate,Bf,g1,g2,g6,g7,lB,e1,Vb,Cc,a1,a2,Pa,w1,w2,hrk,hss,w3,w4]
      subst hQQ
      exact⟨(i+1,k * sz+d),[],by simp[Has,Tr.aa,g1,g2],rfl,rfl,s1,s2,k2⟩)
    (by
     rintro⟨i,k⟩ E ⟨h,k0,k1,k2⟩ ⟨g1,g2,g6,g7,_⟩
     simp only at h k2 g7 g6 ⊢
     subst h
     rw[List.drop_length] at k2
     have hn:Uv (s.parts.drop bs.length) [] k=some k:=by cases s.parts.drop bs.length <;> rfl
     rw[hn] at k2
     have e1:decide ((bs.length:Int) < (bs.length:Int))=false:=Ha (by omega)
     generalize hQ:(fun r:Ex×St=>r.1.stop=true∧_)=Q
     simp -implicitDefEqProofs only[SX,sevalprocAttr,-List.reduceReplicate,Bf,g1,g7,lB,e1]
     subst hQ
     exact⟨rfl,.inl ⟨_,k,rfl,k2,by simp[Tr.aa,g6]⟩⟩)
  apply Lk
  generalize Uv s.parts bs 0=G at *
  generalize hQ:(fun x=>x=PV.Zb _)=Q
  simp -implicitDefEqProofs only[Jg,SX,sevalprocAttr,-List.reduceReplicate,ui,hP1,Vc,Vb,Cc,hcn,d0,d1,lB,lP]
  refine xa (hloop _ (by simp[Tr.aa]) (by simp[Tr.aa]) (by simp[Tr.aa]) (by simp[Tr.aa])) ?_
  rintro r ⟨_,⟨E,k,rfl,hk,q6⟩ | ⟨E,rfl,hk,q4,q5⟩⟩
  ·simp -implicitDefEqProofs only[SX,sevalprocAttr,-List.reduceReplicate,q6]
   subst hQ;rw[hk]
  ·simp -implicitDefEqProofs only[SX,sevalprocAttr,-List.reduceReplicate,q4,q5]
   subst hQ;rw[hk]
 ·rw[if_neg hl]
  have d1:((bs.length:Int) != (s.parts.length:Int))=true:=by simp;omega
  simp -implicitDefEqProofs only[Jg,SX,sevalprocAttr,-List.reduceReplicate,ui,hP1,Vc,Vb,Cc,hcn,d0,d1,lB,lP]
theorem PF {bs:List Int}:∀ {ss:List dc},(∀ s∈ss,Nf s bs=none)→Is bs ss=none
 | [],_=>rfl
 |s::ss,h=>by
  rw[Is,h s (by simp)]
  exact PF fun x hx=>h x (by simp[hx])
theorem mF {S:PV} {ss:List dc} {es:List PV} (hS:Ab S ss es) (Aa:Hc ss) (hinj:Ql ss) {B:PV} {bs:List Int} (hB:Vj B bs):
 Ih [.agg [S],B]=some (match Is bs ss with | some v=> .Zb [i64 v,.bool true] | none=> .Zb [i64 0,.bool false]):=by
 have hS1:(AV.pv S).one=true:=by rcases hS.is with⟨h,_⟩ | h <;> rw[h] <;> rfl
 have h32:=Aa.len
 have ln:=hS.Wb
 obtain⟨w,rfl,hw⟩:=GW hB.RB
 have hB1:=hB.one
 obtain⟨ob,hob⟩:∃ ob,ob=AW w:=⟨_,rfl⟩
 have hone:=fun {i j:Nat} (hi:i < ss.length) (hj:j < ss.length) h1 h2=>QO Aa hinj hw (i:=i) hi h1 j hj h2
 rw[← hob] at hB hone ⊢
 have hloop:=fun (E:Tr) (h1:E.get 1= .pv B) (h2:E.get 2= .pv (.rp [S] 0)) (h6:E.get 6= .pv (i64 0)) (h7:E.get 7= .pv (.bool false)) (h8:E.get 8= .pv (i64 0))=>
  Mo (call:=Ga (fun _=>none) 8) (b:=Ye) (live:=[1,2,6,7,8]) (E0:=E) (H0:=[]) (Q:=fun r=>∃ E u f,r=(.exit 0,⟨E,[]⟩)∧E.get 6= .pv (i64 u)∧E.get 7= .pv (.bool f)∧((f=false∧u=0∧Is ob ss=none)∨(f=true∧Is ob ss=some u)))
   (fun x:Nat×Int×Bool=>[(1,.pv B),(2,.pv (.rp [S] 0)),(6,.pv (i64 x.2.1)),(7,.pv (.bool x.2.2)),(8,.pv (i64 x.1))]) (fun _=>[])
   (fun i x=>x.1=i∧((x.2.2=false∧x.2.1=0∧∀ j (hj:j < ss.length),j < i→Nf ss[j] ob=none)∨(x.2.2=true∧∃ j,∃ hj:j < ss.length,∃ k,j < i∧Nf ss[j] ob=some k∧x.2.1=ss[j].first+k))) ss.length (by unfold oa;omega) (fun _=>rfl)
   (fun i x _=>⟨by simp[Vn],yt rfl,rfl⟩) ⟨(0,0,false),⟨h1,h2,h6,h7,h8,trivial⟩,rfl,rfl,.inl ⟨rfl,rfl,fun j _ h=>by omega⟩⟩
   (by
    rintro _ ⟨i,u,f⟩ E hi ⟨rfl,hc⟩ ⟨g1,g2,g6,g7,g8,_⟩
    simp only at hi hc g1 g2 g6 g7 g8
    obtain⟨P,ps,hP,a1⟩:=hS.pd hi
    have hk:=Aa.As _ (List.getElem_mem hi)
    have hrk:=zF hP hk hB
    have f0:=hk.f0
    have f1:=hk.f1
    have hp2:=hk.prod.2
    have e1:decide ((i:Int) < (ss.length:Int))=true:=Da (by omega)
    have w1:IntKind.i64.wrap ((i:Int)+1)=((i+1:Nat):Int):=mj (by omega)
    cases hr:Nf ss[i] ob with
    |none=>
     rw[hr] at hrk
     have hc':((f=false∧u=0∧∀ j (hj:j < ss.length),j < i+1→Nf ss[j] ob=none)∨(f=true∧∃ j,∃ hj:j < ss.length,∃ k,j < i+1∧Nf ss[j] ob=some k∧u=ss[j].first+k)):=by
      rcases hc with⟨c1,c2,c3⟩ | ⟨c1,j,hj,k,c2,c3,c4⟩
      ·refine .inl ⟨c1,c2,fun j hj hlt=> ?_⟩
       rcases Nat.lt_or_ge j i with h3 | h3
       ·exact c3 j hj h3
       ·have:j=i:=by omega
        subst this;exact hr
      ·exact .inr ⟨c1,j,hj,k,by omega,c3,c4⟩
     clear hc
     generalize hQ:RH _ _ _ _=Q
     generalize ss[i]=s at *
     simp -implicitDefEqProofs only[SX,sevalprocAttr,-List.reduceReplicate,Ye,g1,g2,g6,g7,g8,ln,e1,Hb,Pa,Vc,a1,hrk,w1]
     subst hQ
     exact⟨(i+1,u,f),[],by simp[Has,Tr.aa,g1,g2,g6,g7],rfl,rfl,hc'⟩
    |some k=>
     rw[hr] at hrk
     have hff:f=false:=by
      rcases hc with⟨c1,_⟩ | ⟨c1,j,hj,k',c2,c3,c4⟩
      ·exact c1
      ·have:=hone hi hj (by rw[hr];rfl) (by rw[c3];rfl)
       omega
     subst hff
     obtain⟨hh,_⟩:=wM hk hr
     have hc':((true=false∧ss[i].first+k=0∧∀ j (hj:j < ss.length),j < i+1→Nf ss[j] ob=none)∨(true=true∧∃ j,∃ hj:j < ss.length,∃ k',j < i+1∧Nf ss[j] ob=some k'∧ss[i].first+k=ss[j].first+k')):= .inr ⟨rfl,i,hi,k,by omega,hr,rfl⟩
     unfold has at hh
     have w2:IntKind.i64.wrap (ss[i].first+k)=ss[i].first+k:=Ba (by omega)
     clear hc
     generalize hQ:RH _ _ _ _=Q
     generalize hss:ss[i]=s at *
     simp -implicitDefEqProofs only[SX,sevalprocAttr,-List.reduceReplicate,Ye,g1,g2,g6,g7,g8,ln,e1,Hb,Pa,bg,Mg,Vc,a1,hrk,w1,w2]
     subst hQ
     exact⟨(i+1,s.first+k,true),[],by simp[Has,Tr.aa,g1,g2],rfl,rfl,hc'⟩)
   (by
    rintro⟨i,u,f⟩ E ⟨h,hc⟩ ⟨g1,g2,g6,g7,g8,_⟩
    simp only at h hc g6 g7 g8 ⊢
    subst h
    have e1:decide ((ss.length:Int) < (ss.length:Int))=false:=Ha (by omega)
    generalize hQ:(fun r:Ex×St=>r.1.stop=true∧_)=Q
    simp -implicitDefEqProofs only[SX,sevalprocAttr,-List.reduceReplicate,Ye,g2,g8,Hb,Pa,ln,e1]
    subst hQ
    refine⟨rfl,_,u,f,rfl,by simp[Tr.aa,g6],by simp[Tr.aa,g7],?_⟩
    rcases hc with⟨c1,c2,c3⟩ | ⟨c1,j,hj,k,_,c3,c4⟩
    ·exact .inl ⟨c1,c2,PF fun s hs=>by
      obtain⟨j,hj,rfl⟩:=List.getElem_of_mem hs
      exact c3 j hj hj⟩
    ·exact .inr ⟨c1,by rw[c4];exact mO hj c3 fun j' hj' h=>hone hj hj' (by rw[c3];rfl) h⟩)
 apply Lk
 generalize Is ob ss=D at *
 generalize hQ:(fun x:PV=>x=_)=Q
 simp -implicitDefEqProofs only[Ih,SX,sevalprocAttr,-List.reduceReplicate,Aj,hS1]
 refine xa (hloop _ (by simp[Tr.aa]) (by simp[Tr.aa]) (by simp[Tr.aa]) (by simp[Tr.aa]) (by simp[Tr.aa])) ?_
 rintro r ⟨_,E,u,f,rfl,q6,q7,hc⟩
 simp -implicitDefEqProofs only[SX,sevalprocAttr,-List.reduceReplicate,q6,q7]
 subst hQ
 rcases hc with⟨rfl,rfl,hd⟩ | ⟨rfl,hd⟩ <;> rw[hd]
end Go.AM.B1
namespace Go.AM.B1
open Go.AM Go.AM.So
theorem OE {p q:dc} (op:Nd p) (oq:Nd q) (hle:p.parts.length≤q.parts.length):Pe p q=true↔∀ k (h1:k < p.parts.length) (h2:k < q.parts.length),∃ x,x < 256∧Uf p.parts[k] x=true∧Uf q.parts[k] x=true:=by
 have key:∀ (m i:Nat),i+m=p.parts.length→((ec p.parts q.parts m i).isSome=true↔∀ k,i≤k→(h1:k < p.parts.length)→(h2:k < q.parts.length)→∃ x,x < 256∧Uf p.parts[k] x=true∧Uf q.parts[k] x=true):=by
  intro m
  induction m with
  |zero=>intro i hi;exact⟨fun _ k hk h1=>by omega,fun _=>rfl⟩
  |succ m ih=>
   intro i hi
   have h1:i < p.parts.length:=by omega
   have h2:i < q.parts.length:=by omega
   have hm:=Fy h1 h2 (op.parts _ (List.getElem_mem h1)).2 (oq.parts _ (List.getElem_mem h2)).2
   have hI:=ih (i+1) (by omega)
   rw[ec]
   cases hmt:Uo p.parts q.parts i with
   |nil=>
    constructor
    ·intro h;cases h
    ·intro h;exact absurd hmt (hm.2 (h i (Nat.le_refl _) h1 h2))
   |cons a r=>
    simp only[Option.isSome_map]
    rw[hI]
    constructor
    ·intro h k hk g1 g2
     rcases Nat.lt_or_ge i k with h3 | h3
     ·exact h k h3 g1 g2
     ·have:k=i:=by omega
      subst this
      exact hm.1 (by rw[hmt];simp)
    ·intro h k hk;exact h k (by omega)
 have:=key p.parts.length 0 (by omega)
 unfold Pe
 rw[this]
 exact⟨fun h k h1 h2=>h k (by omega) h1 h2,fun h k _ h1 h2=>h k h1 h2⟩
theorem SE {p q:dc} (op:Nd p) (oq:Nd q) (h:p.parts.length=q.parts.length):Pe p q=Pe q p:=by
 rw[Bool.eq_iff_iff,OE op oq (by omega),OE oq op (by omega)]
 constructor
 ·intro k i h1 h2;obtain⟨x,a,b,c⟩:=k i h2 h1;exact⟨x,a,c,b⟩
 ·intro k i h1 h2;obtain⟨x,a,b,c⟩:=k i h2 h1;exact⟨x,a,c,b⟩
def aD (ss:List dc) (i j:Nat):Prop:=(hi:i < ss.length)→(hj:j < ss.length)→j < i→ss[i].parts.length=ss[j].parts.length→Pe ss[i] ss[j]=false
theorem rG {ss:List dc} (Aa:Hc ss):Ql ss↔∀ i j,aD ss i j:=by
 constructor
 ·intro h i j hi hj hlt he
  rw[SE (Aa.As _ (List.getElem_mem hi)) (Aa.As _ (List.getElem_mem hj)) he]
  exact h j i hj hi hlt he.symm
 ·intro h i j hi hj hlt he
  rw[SE (Aa.As _ (List.getElem_mem hi)) (Aa.As _ (List.getElem_mem hj)) he]
  exact h j i hj hi hlt he.symm
section
variable {S:PV} {ss:List dc} {es:List PV} (hS:Ab S ss es) (Aa:Hc ss)
include hS Aa
theorem cI (call:Za) {i:Nat} (hi:i < ss.length) {E:Tr} (h1:E.get 1= .pv (.rp [S] 0)) (h4:E.get 4= .pv (i64 i)) (h5:E.get 5= .pv (i64 0)):
 Td (fun r=>r.1.stop=true∧((∃ E',r=(.exit 2,⟨E',[]⟩)∧Zd [1,4] E E'∧∀ j,aD ss i j)∨∃ E',r=(.ret,⟨E',[]⟩)∧E'.get 2= .pv (.bool false)∧E'.get 3= .pv (i64 0)∧¬Ql ss))
  (ta call (.loop [1,4,5] Ad) ⟨E,[]⟩):=by
 have h32:=Aa.len
 have ln:=hS.Wb
 obtain⟨P,ps,hP,a1⟩:=hS.pd hi
 have okp:=Aa.As _ (List.getElem_mem hi)
 have lP:=hP.parts.Wb
 refine Un (fun j t=>Zd [1,4] E t.env∧t.env.get 5= .pv (i64 j)∧t.H=[]∧∀ j',j' < j→aD ss i j') i (by unfold oa;omega)
  (Xg.all rfl (by simp) (Fit.cons h1 Ia (.cons h4 Ia (.cons h5 Ia (.nil _ _)))) fun E' hE=>⟨Zd.sub hE rfl,by rw[hE 5 (by simp),h5];rfl,rfl,fun j h=>by omega⟩) ?_ ?_
 ·rintro j ⟨E1,H1⟩ hj ⟨k1,k5,k3,hs⟩
  simp only at k1 k5 k3
  subst k3
  have hjl:j < ss.length:=by omega
  have g1:=(k1 1 (by simp)).trans h1
  have g4:=(k1 4 (by simp)).trans h4
  obtain⟨Q,qs,hQ,a2⟩:=hS.pd hjl
  have okq:=Aa.As _ (List.getElem_mem hjl)
  have hcm:=fun (h:ss[i].parts.length≤ss[j].parts.length)=>iw hP hQ okp okq (n:=ss[i].parts.length) (Nat.le_refl _) h
  have lQ:=hQ.parts.Wb
  have hat:∀ b,(ss[i].parts.length=ss[j].parts.length→Pe ss[i] ss[j]=b)→b=false→∀ j',j' < j+1→aD ss i j':=by
   intro b hb hb0 j' hj'
   rcases Nat.lt_or_ge j' j with h3 | h3
   ·exact hs j' h3
   ·have:j'=j:=by omega
    subst this
    intro _ _ _ he
    rw[hb he,hb0]
  have hbad:ss[i].parts.length=ss[j].parts.length→Pe ss[i] ss[j]=true→¬Ql ss:=fun he hm h=>by
   have:=(rG Aa).1 h i j hi hjl hj he
   rw[hm] at this;cases this
  unfold Pe at hat hbad
  generalize ss[i]=p at *
  generalize ss[j]=q at *
  have e1:decide ((j:Int) < (i:Int))=true:=Da (by omega)
  have t2:IntKind.i64.wrap ((j:Int)+1)=((j+1:Nat):Int):=mj (by omega)
  have fin:(∀ j',j' < j+1→aD ss i j')→∀ E2:Tr,Zd [1,4] E E2→E2.get 5= .pv (i64 (j+1:Nat))→Xg ([]:List ba).length [1,4,5] (fun t=>Zd [1,4] E t.env∧t.env.get 5= .pv (i64 (j+1:Nat))∧t.H=[]∧∀ j',j' < j+1→aD ss i j') ⟨E2,[]⟩:=fun hn E2 kk z5=>
   Xg.all rfl (by simp) (Fit.sub (.cons z5 Ia (Fit.Be (l:=[1,4]) (.cons h1 Ia (.cons h4 Ia (.nil _ _))) kk)) rfl) fun E' hE=>⟨kk.trans (Zd.sub hE rfl),by rw[hE 5 (by simp),z5],rfl,hn⟩
  generalize hQQ:RQ _ _ _ _=QQ
  by_cases c1:p.parts.length=q.parts.length
  ·have d1:((p.parts.length:Int)==(q.parts.length:Int))=true:=by rw[c1];simp
   obtain⟨v,hv⟩:=hcm (by omega)
   cases hb:(ec p.parts q.parts p.parts.length 0).isSome with
   |true=>
    rw[hb] at hv
    simp -implicitDefEqProofs only[SX,sevalprocAttr,Ad,g1,g4,k5,e1,Hb,Pa,Vb,Cc,Vc,a1,a2,lP,lQ,d1,hv]
    subst hQQ
    exact .inr ⟨_,rfl,by simp[Tr.aa],by simp[Tr.aa],hbad c1 hb⟩
   |false=>
    rw[hb] at hv
    simp -implicitDefEqProofs only[SX,sevalprocAttr,Ad,g1,g4,k5,e1,t2,Hb,Pa,Vb,Cc,Vc,a1,a2,lP,lQ,d1,hv]
    subst hQQ
    rw[Xl]
    generalize hEE:(Tr.set _ 5 _:Tr)=E2
    refine fin (hat false (fun _=>hb) rfl) E2 (by rw[← hEE];(repeat refine Zd.set ?_ rfl);exact k1) (by rw[← hEE];simp[Tr.aa])
  ·have d1:((p.parts.length:Int)==(q.parts.length:Int))=false:=beq_false_of_ne (by omega)
   simp -implicitDefEqProofs only[SX,sevalprocAttr,Ad,g1,g4,k5,e1,t2,Hb,Pa,Vb,Cc,Vc,a1,a2,lP,lQ,d1]
   subst hQQ
   rw[Xl]
   generalize hEE:(Tr.set _ 5 _:Tr)=E2
   refine fin (hat false (fun h=>absurd h c1) rfl) E2 (by rw[← hEE];(repeat refine Zd.set ?_ rfl);exact k1) (by rw[← hEE];simp[Tr.aa])
 ·rintro⟨E1,H1⟩ ⟨k1,k5,k3,hs⟩
  simp only at k1 k5 k3
  subst k3
  have g4:=(k1 4 (by simp)).trans h4
  have e1:decide ((i:Int) < (i:Int))=false:=Ha (by omega)
  generalize hQ:(fun r:Ex×St=>r.1.stop=true∧_)=QQ
  simp -implicitDefEqProofs only[SX,sevalprocAttr,Ad,g4,k5,e1]
  subst hQ
  refine⟨rfl,.inl ⟨_,rfl,?_,fun j a b c=>hs j c a b c⟩⟩
  repeat refine Zd.set ?_ rfl
  exact k1
theorem uy:∃ b,Ee [.agg [S]]=some (.Zb [.bool b,i64 0])∧(b=true↔Ql ss):=by
 have ln:=hS.Wb
 have hS1:(AV.pv S).one=true:=by rcases hS.is with⟨h,_⟩ | h <;> rw[h] <;> rfl
 obtain⟨b,hb,hbb⟩:=Pv hS
 have:=hbb.2 Aa
 subst this
 have h32:=Aa.len
 have hloop:=fun (E:Tr) (h1:E.get 1= .pv (.rp [S] 0)) (h4:E.get 4= .pv (i64 0))=>
  Un (call:=Ga (fun _=>none) 8) (b:=kg) (live:=[1,4]) (s:=⟨E,[]⟩) (Q:=fun r=>(∃ E',r=(.exit 0,⟨E',[]⟩)∧Ql ss)∨∃ E',r=(.ret,⟨E',[]⟩)∧E'.get 2= .pv (.bool false)∧E'.get 3= .pv (i64 0)∧¬Ql ss)
   (fun i t=>Zd [1] E t.env∧t.env.get 4= .pv (i64 i)∧t.H=[]∧∀ i',i' < i→∀ j,aD ss i' j) ss.length (by unfold oa;omega)
   (Xg.all rfl (by simp) (Fit.cons h1 Ia (.cons h4 Ia (.nil _ _))) fun E' hE=>⟨Zd.sub hE rfl,by rw[hE 4 (by simp),h4];rfl,rfl,fun i h=>by omega⟩)
   (by
    rintro i ⟨E1,H1⟩ hi ⟨k1,k4,k3,hs⟩
    simp only at k1 k4 k3
    subst k3
    have g1:=(k1 1 (by simp)).trans h1
    have e1:decide ((i:Int) < (ss.length:Int))=true:=Da (by omega)
    have t2:=Ua hi (by unfold maxLen;omega)
    generalize hQQ:RQ _ _ _ _=QQ
    simp -implicitDefEqProofs only[SX,sevalprocAttr,kg,g1,k4,ln,e1,Hb,Pa]
    generalize hEE:(Tr.set _ 5 _:Tr)=E2
    have z1:E2.get 1= .pv (.rp [S] 0):=by rw[← hEE];simp[Tr.aa,g1]
    have z4:E2.get 4= .pv (i64 i):=by rw[← hEE];simp[Tr.aa,k4]
    refine xa (cI hS Aa _ hi z1 z4 (by rw[← hEE];simp[Tr.aa])) ?_
    rintro _ ⟨_,⟨E3,rfl,k6,hp⟩ | ⟨E3,rfl,g2,g3,hp⟩⟩
    ·have y4:=(k6 4 (by simp)).trans z4
     simp -implicitDefEqProofs only[SX,sevalprocAttr,y4,t2]
     subst hQQ
     rw[Xl]
     generalize hE4:(Tr.set _ 4 _:Tr)=E4
     have y1:E4.get 1= .pv (.rp [S] 0):=by rw[← hE4];simp[Tr.aa];exact (k6 1 (by simp)).trans z1
     have y4:E4.get 4= .pv (i64 (i+1:Nat)):=by rw[← hE4];simp[Tr.aa]
     exact Xg.all rfl (by simp) (Fit.cons y1 Ia (.cons y4 Ia (.nil _ _))) fun E' hE=>⟨fun t ht=>by
      rw[List.mem_singleton] at ht;subst ht
      rw[hE 1 (by simp),y1,h1],by rw[hE 4 (by simp),y4],rfl,fun i' hi' j=>by
      rcases Nat.lt_or_ge i' i with h3 | h3
      ·exact hs i' h3 j
      ·have:i'=i:=by omega
       subst this;exact hp j⟩
    ·simp -implicitDefEqProofs only[SX,sevalprocAttr]
     subst hQQ
     exact .inr ⟨_,rfl,g2,g3,hp⟩)
   (by
    rintro⟨E1,H1⟩ ⟨k1,k4,k3,hs⟩
    simp only at k1 k4 k3
    subst k3
    have g1:=(k1 1 (by simp)).trans h1
    have e1:decide ((ss.length:Int) < (ss.length:Int))=false:=Ha (by omega)
    generalize hQ:(fun r:Ex×St=>r.1.stop=true∧_)=QQ
    simp -implicitDefEqProofs only[SX,sevalprocAttr,kg,g1,k4,ln,e1,Hb,Pa]
    subst hQ
    exact⟨rfl,.inl ⟨_,rfl,(rG Aa).2 fun i j hi hj=>hs i hi j hi hj⟩⟩)
 have key:Td (fun r=>∃ b,r=PV.Zb [.bool b,i64 0]∧(b=true↔Ql ss)) (Ee [.agg [S]]):=by
  generalize hQQ:(fun r:PV=>_)=QQ
  simp -implicitDefEqProofs only[Ee,SX,sevalprocAttr,fj,hS1,Hb,Pa,Pf,hb]
  generalize hEE:(Tr.set _ 4 _:Tr)=E
  refine xa (hloop E (by rw[← hEE];simp[Tr.aa]) (by rw[← hEE];simp[Tr.aa])) ?_
  rintro _ ⟨_,⟨E',rfl,hp⟩ | ⟨E',rfl,g2,g3,hp⟩⟩
  ·simp -implicitDefEqProofs only[SX,sevalprocAttr]
   subst hQQ
   exact⟨true,rfl,by simpa using hp⟩
  ·simp -implicitDefEqProofs only[SX,sevalprocAttr,g2,g3]
   subst hQQ
   exact⟨false,rfl,by simpa using hp⟩
 obtain⟨r,h1,b,rfl,hb⟩:=Fc key
 exact⟨b,h1,hb⟩
end
theorem gG {S V:PV} {ss:List dc} {es:List PV} (hS:Ab S ss es) {m:Int} (hV:(AV.pv V).one=true) (hm:m=84∨m=110) (hb:Ya [.agg [S]]=some (.Zb [.agg [V],i64 m])):qd [.agg [S]]=some (.Zb [.agg [.pa],i64 m]):=by
 have hS1:(AV.pv S).one=true:=by rcases hS.is with⟨h,_⟩ | h <;> rw[h] <;> rfl
 have s1:Ra [.box [.pv .pa],.box [.pv .pa]] 1 (.ptr 1 0) (.pv (.agg [V]))=some [.box [.pv .pa],.box [.pv V]]:=by simp[Ra,AV.cells,PV.cells,hV,na]
 have s0:Ra [.box [.pv .pa],.box [.pv V]] 1 (.ptr 0 0) (.pv (.agg [.pa]))=some [.box [.pv .pa],.box [.pv V]]:=rfl
 have ld:ya [.box [.pv .pa],.box [.pv V]] true 1 (.ptr 0 0)=some (.pv (.agg [.pa])):=rfl
 have z1:((84:Int)==84)=true:=rfl
 have z2:((110:Int)==84)=false:=rfl
 have z3:((110:Int)==110)=true:=rfl
 rcases hm with rfl | rfl <;>
 simp -implicitDefEqProofs only[qd,SX,sevalprocAttr,Sg,hS1,Pf,hb,s1,s0,ld,z1,z2,z3]
theorem Mw {S V:PV} {ss:List dc} {es:List PV} (hS:Ab S ss es) {m:Int} {b:Bool} (hV:(AV.pv V).one=true) (h1:m≠84) (h2:m≠110) (hb:Ya [.agg [S]]=some (.Zb [.agg [V],i64 m])) (hi:Ee [.agg [S]]=some (.Zb [.bool b,i64 0])):
 qd [.agg [S]]=some (.Zb [.agg [if b then V else .pa],i64 (if b then m else 111)]):=by
 have hS1:(AV.pv S).one=true:=by rcases hS.is with⟨h,_⟩ | h <;> rw[h] <;> rfl
 have s1:Ra [.box [.pv .pa],.box [.pv .pa]] 1 (.ptr 1 0) (.pv (.agg [V]))=some [.box [.pv .pa],.box [.pv V]]:=by simp[Ra,AV.cells,PV.cells,hV,na]
 have s0:Ra [.box [.pv .pa],.box [.pv V]] 1 (.ptr 0 0) (.pv (.agg [.pa]))=some [.box [.pv .pa],.box [.pv V]]:=rfl
 have s2:Ra [.box [.pv .pa],.box [.pv V]] 1 (.ptr 0 0) (.pv (.agg [V]))=some [.box [.pv V],.box [.pv V]]:=by simp[Ra,AV.cells,PV.cells,hV,na]
 have ld:∀ W:PV,ya [.box [.pv W],.box [.pv V]] true 1 (.ptr 0 0)=some (.pv (.agg [W])):=fun W=>rfl
 have ld1:ya [.box [.pv .pa],.box [.pv V]] true 1 (.ptr 1 0)=some (.pv (.agg [V])):=rfl
 have z1:(m==84)=false:=beq_false_of_ne h1
 have z2:(m==110)=false:=beq_false_of_ne h2
 cases b <;>
 simp -implicitDefEqProofs only[qd,SX,sevalprocAttr,Sg,hS1,Pf,hb,hi,s1,s0,s2,ld,ld1,z1,z2]
theorem mH (ss:List dc):∃ n V,(∀ (S:PV) (es:List PV),Ab S ss es→qd [.agg [S]]=some (.Zb [.agg [V],i64 n]))∧(n=0→∃ l,vh ss=some l∧V=Ai l)∧(AV.pv V).one=true∧
 (∀ (S:PV) (es:List PV),Ab S ss es→∃ T,Eb [.agg [S]]=some (.Zb [T,i64 n])∧((n≠0∧T= .Mi)∨(n=0∧Hc ss∧gh ss∧Ql ss∧∃ l,vh ss=some l∧mv T ss l∧∀ e∈l,Sn e))):=by
 obtain⟨VB,lB,m,hVB,_,_,hb1,hb2⟩:=IL ss
 have hval:∀ (S:PV) (es:List PV) (V':PV) (m':Int),Ab S ss es→Ec [.agg [S]]=some (.Zb [.agg [V'],i64 m'])→Ya [.agg [S]]=some (.Zb [.agg [V'],i64 m']):=by
  intro S es V' m' hS h
  rw[hb2 S es hS,←hb1 S es hS,h]
 have ae:∀ n:Int,(∀ (S:PV) (es:List PV),Ab S ss es→∀ T k,Eb [.agg [S]]=some (.Zb [T,i64 k])→k=n)→∀ (S:PV) (es:List PV),Ab S ss es→∃ T,Eb [.agg [S]]=some (.Zb [T,i64 n])∧((n≠0∧T= .Mi)∨(n=0∧Hc ss∧gh ss∧Ql ss∧∃ l,vh ss=some l∧mv T ss l∧∀ e∈l,Sn e)):=by
  intro n hn S es hS
  obtain⟨T,k,h1,h2⟩:=DP hS
  obtain rfl:=hn S es hS T k h1
  exact⟨T,h1,h2⟩
 have same:∀ {S:PV} {T T':PV} {k k':Int},Eb [.agg [S]]=some (.Zb [T,i64 k])→Eb [.agg [S]]=some (.Zb [T',i64 k'])→k=k':=by
  intro S T T' k k' h1 h2
  rw[h1] at h2
  injection h2 with h2
  injection h2 with h2
  injection h2 with _ h2
  injection h2 with h2 _
  injection h2
 have aut:vh ss=none∨∃ l,vh ss=some l:=by
  cases vh ss with
  |none=>exact .inl rfl
  |some l=>exact .inr ⟨l,rfl⟩
 have one:∀ {l:List (List Oe)},(AV.pv (Ai l)).one=true:=fun {l}=>rfl
 by_cases h1:Hc ss
 ·by_cases h2:gh ss
  ·by_cases h3:Ql ss
   ·rcases aut with h4 | ⟨l,h4⟩
    ·skip
     refine⟨130,.pa,fun S es hS=> ?_,fun h=>(by cases h),rfl,ae 130 fun S es hS T k hk=> ?_⟩
     ·obtain⟨b,i1,i2⟩:=uy hS h1
      have:=i2.2 h3
      subst this
      exact Mw hS rfl (by decide) (by decide) (hval S es _ _ hS ((Ci hS).2.2.1 h1 h2 h4)) i1
     ·obtain⟨T',n,t1,_,_,_,_,t2,_⟩:=Qp hS
      have:=t2 h1 h2 h3 h4
      subst this
      exact same hk t1
    ·skip
     refine⟨0,Ai l,fun S es hS=> ?_,fun _=>⟨l,h4,rfl⟩,one,ae 0 fun S es hS T k hk=> ?_⟩
     ·obtain⟨b,i1,i2⟩:=uy hS h1
      have:=i2.2 h3
      subst this
      exact Mw hS one (by decide) (by decide) (hval S es _ _ hS ((Ci hS).2.2.2 h1 h2 l h4)) i1
     ·obtain⟨T',n,t1,_,_,_,_,_,t2⟩:=Qp hS
      have:=(t2 l h1 h2 h3 h4).1
      subst this
      exact same hk t1
   ·refine⟨111,.pa,fun S es hS=> ?_,fun h=>(by cases h),rfl,ae 111 fun S es hS T k hk=> ?_⟩
    ·obtain⟨b,i1,i2⟩:=uy hS h1
     have hb:b=false:=by cases b with | false=>rfl | true=>exact absurd (i2.1 rfl) h3
     subst hb
     cases h4:vh ss with
     |none=>exact Mw hS (V:= .pa) rfl (by decide) (by decide) (hval S es _ _ hS ((Ci hS).2.2.1 h1 h2 h4)) i1
     |some l=>exact Mw hS one (by decide) (by decide) (hval S es _ _ hS ((Ci hS).2.2.2 h1 h2 l h4)) i1
    ·obtain⟨T',n,t1,_,_,_,t2,_⟩:=Qp hS
     have:=t2 h1 h2 h3
     subst this
     exact same hk t1
  ·refine⟨110,.pa,fun S es hS=>gG hS (V:= .pa) rfl (.inr rfl) (hval S es _ _ hS ((Ci hS).2.1 h1 h2)),fun h=>(by cases h),rfl,ae 110 fun S es hS T k hk=> ?_⟩
   obtain⟨T',n,t1,_,_,t2,_⟩:=Qp hS
   have:=t2 h1 h2
   subst this
   exact same hk t1
 ·refine⟨84,.pa,fun S es hS=>gG hS (V:= .pa) rfl (.inl rfl) (hval S es _ _ hS ((Ci hS).1 h1)),fun h=>(by cases h),rfl,ae 84 fun S es hS T k hk=> ?_⟩
  obtain⟨T',n,t1,_,t2,_⟩:=Qp hS
  have:=t2 h1
  subst this
  exact same hk t1
end Go.AM.B1
namespace Go.AM.B1
open Go.AM Go.AM.So
def KX (T R:PV) (un tot out:Int) (st fin:Bool):ba:= .box ([T,i64 un,R,i64 tot,i64 out,.bool st,.bool fin].map .pv)
structure UX (T:PV) (cd:Int→Option (List Int)):Prop where
 enc:∀ u,Sd [T,i64 u]=some (match cd u with | some b=> .Zb [.lit 1 (b.map u8),.bool true] | none=> .Zb [.pa,.bool false])
 len:∀ u b,cd u=some b→b.length≤8
 ptr:∃ R,T= .rp R 0
structure eQ (U:AV) (us:List Int) (n0:Nat):Prop where
 len:∀ H,Wb H 0 U=some us.length
 BY:∀ H (i:Nat) (h:i < us.length),qa H 1 U i=some (.pv (.rp [i64 us[i]] 0))
 cut:∀ n,n0≤n→AV.cut n deep U=some U
theorem YM {A:List ba} {id n sz bytes:Nat} {nl nl' ag:Bool} {h:Cf} {es ys:List PV} (hg:A[id]? =some (.tok sz n nl')) (hn:n=es.length) (hr:pb (es.length+ys.length) bytes):
 ic A false h sz ag bytes (.uq id nl sz es) (.pv (.lit sz ys))=some (.uq id (nl&&ys.isEmpty) sz (es++ys),A.set id (.tok sz (es.length+ys.length) (nl&&ys.isEmpty))):=by
 subst hn
 simp only[ic,Bool.false_eq_true,if_false,hg,Gf,if_true,Option.bind_some]
 rw[if_pos ⟨trivial,trivial,trivial,hr⟩]
section
variable {A:List ba} {c:Nat}
end
end Go.AM.B1
namespace Go.AM.B1
open Go.AM Go.AM.So
theorem nI {ss:List dc} (h:∀ s∈ss,∀ l∈s.parts,l.length≤1000) (h2:∀ s∈ss,s.parts.length≤1000) (h3:ss.length≤1000):Ab (.lit 2 (ss.map Le)) ss (ss.map Le):=by
 refine⟨.inr rfl,by rw[List.length_map],fun k e s he hs=> ?_,by unfold maxLen;omega⟩
 rw[List.getElem?_map,hs] at he
 injection he with he
 have hm:=List.mem_of_getElem? hs
 refine⟨_,_,he.symm,.inr rfl,by rw[List.length_map],fun j v l hv hl=> ?_,by have:=h2 s hm;unfold maxLen;omega⟩
 rw[List.getElem?_map,hl] at hv
 injection hv with hv
 have:=h s hm l (List.mem_of_getElem? hl)
 exact⟨.inr hv.symm,by omega⟩
theorem YK {ss:List dc} {l:List (List Oe)} {a b c d:Int} (hh:Ab (.lit 2 (ss.map Le)) ss (ss.map Le)) (hv:ig [.agg [.lit 2 (ss.map Le)]]=some (.bool true)) (hp:Ke [.agg [.lit 2 (ss.map Le)]]=some (.Zb [.agg [.bool true,i64 a,i64 b],i64 0]))
 (hi:ch [.agg [.lit 2 (ss.map Le)]]=some (.Zb [.agg [.bool true,i64 c,i64 d],i64 0])) (ha:vh ss=some l):
 Hc ss∧∃ T,Eb [.agg [.lit 2 (ss.map Le)]]=some (.Zb [T,i64 0])∧mv T ss l∧∀ e∈l,Sn e:=by
 obtain⟨x,h1,h2⟩:=rl hh
 rw[hv] at h1
 injection h1 with h1
 injection h1 with h1
 have Aa:=h2.1 h1.symm
 obtain⟨y,a',b',h3,h4⟩:=(WE hh).2 Aa
 rw[hp] at h3
 injection h3 with h3
 injection h3 with h3
 injection h3 with h3 _
 injection h3 with h3
 injection h3 with h3 _
 injection h3 with h3
 have hpre:=h4.1 h3.symm
 obtain⟨T,t1,t2⟩:=jE hh Aa hpre ha hi
 exact⟨Aa,T,t1,t2,bF Aa hpre ha⟩
def Zx:List dc:=[⟨[[(194,223)],[(128,191)]],128⟩,⟨[[(0,127)]],0⟩]
theorem NJ:ig [.agg [.lit 2 (Zx.map Le)]]=some (.bool true):=by kernel_rfl
theorem OH:Ke [.agg [.lit 2 (Zx.map Le)]]=some (.Zb [.agg [.bool true,i64 0,i64 0],i64 0]):=by kernel_rfl
theorem aI:ch [.agg [.lit 2 (Zx.map Le)]]=some (.Zb [.agg [.bool true,i64 0,i64 0],i64 0]):=by kernel_rfl
theorem FM:vh Zx=some [[⟨0,127,-1⟩,⟨194,223,1⟩],[⟨128,191,-1⟩]]:=by kernel_rfl
theorem KL:Oi Zx=[[0,127,1],[128,2047,0]]:=by kernel_rfl
end Go.AM.B1
namespace Go.AM.B1
open Go.AM Go.AM.So
theorem UX.of {T:PV} {ss:List dc} {l:List (List Oe)} (hT:mv T ss l) (Aa:Hc ss):UX T fun u=>AN u ss:=by
 refine⟨fun u=>zD hT Aa u,fun u b h=> ?_,?_⟩
 ·obtain⟨s,hs,h1,h2,rfl,_⟩:=fL Aa.As h
  have hk:=Aa.As s hs
  have:=(Qq s.parts (u - s.first) 0 hk.parts (by omega) (by omega)).2.1
  have:=hk.hi
  omega
 ·obtain⟨S',NX,DG,RW,h,_⟩:=hT.ex
  exact⟨_,h⟩
section
variable {H:List ba} {T:PV} {cd:Int→Option (List Int)} {call:Za}
end
end Go.AM.B1
