/- What functions of the program compute. -/
import Derived.Test.YtdglpnpkgngcdaaGreatM4
import Derived.Test.YtdglpnpkgngcdaaGreatM3
set_option linter.unusedVariables false
set_option linter.unusedSimpArgs false
namespace Go.AM.B1
open Go.AM Go.AM.So
abbrev topM:Int:=1073741823
theorem pobj_join {A:List AObj} {id1 id2 n1 n2 f1 f2 bytes:Nat} {k1 k2:Bool} {h:Hold} {a b:List (Int×Int)} (h1:A[id1]? =some (pobj a f1 k1)) (h2:A[id2]? =some (pobj b f2 k2)) (hn1:n1=a.length) (hn2:n2=b.length) (hr:roomOk (n1+n2) bytes):
 ∃ k,appendA A true h 2 true bytes (.own id1 n1) (.own id2 n2)=some (.own id1 (n1+n2),A.set id1 (pobj (a++b) f1 k)):=by
 subst hn1 hn2
 have la:=pobj_len a
 have lb:=pobj_len b
 have e:flatR (prowsA (a++b))=flatR (prowsA a)++flatR (prowsA b):=by simp[flatR,prowsA]
 have hone:(flatR (prowsA b)).all AV.one=true:=by
  rw[List.all_eq_true]
  intro v hv
  obtain⟨c,hc,rfl⟩:=List.mem_map.1 hv
  rw[List.mem_flatten] at hc
  obtain⟨r,hr,hc⟩:=hc
  exact (prow_sz r (prows_mem b r hr)).2 c hc
 refine⟨k1&&(b.length==0),?_⟩
 simp only[appendA,if_true,h1,pobj,rowsObj,elemsA,h2,e]
 rw[if_pos ⟨trivial,by omega⟩]
 simp only[Option.bind_some]
 rw[if_pos ⟨trivial,by omega,hr,hone⟩]
theorem scalars_set_own_run (v:PV) (l:List (Int×Int)) (hv:IsL 2 v (prs l)) (hw:l.length * 16≤140737488355328) (hval:validR topM (-2) l=true) (H:List AObj) (hH:HGood H):
 runF (callLS S_norm t_scalars_Union 7) b_scalars_set_own [.pv v] H=some (.own H.length l.length,H++[pobj l 0 false]):=by
 have h1:=to_own_run (callLS S_norm t_scalars_Union 6) v l hv hw H hH
 have h2:=valid_run (.lit 2 (prs l)) l (.inr rfl) (by unfold maxLen;omega) topM (by decide)
 rw[hval] at h2
 have h0:∀ args H,callLS S_norm t_scalars_Union 7 0 args H=runF (callLS S_norm t_scalars_Union 6) b_sets_To_sets_Run_api_Range_own args H:=fun _ _=>rfl
 have h3:=pobj_toPV (A:=H++[pobj l 0 false]) (id:=H.length) (n:=l.length) (get_top _ _) rfl 5
 rw[if_neg (by simp)] at h3
 simp (implicitDefEqProofs:=false) only[SP,SA,WP,sevalprocAttr,-List.reduceReplicate,b_scalars_set_own,h0,h1,h2,h3]
theorem hgood_push {H:List AObj} (hH:HGood H) {o:AObj} (ho:∀ n,cutObj n o=some o):HGood (H++[o]):=by
 intro n hn x hx
 rcases List.mem_append.1 hx with h | h
 ·exact hH n (by simp at hn;omega) x h
 ·simp at h;subst h;exact ho n
theorem union_run (A B:PV) (a b:List (Int×Int)) (hA:IsL 2 A (prs a)) (hB:IsL 2 B (prs b)) (hva:validR topM (-2) a=true) (hvb:validR topM (-2) b=true) (hl:a.length+b.length < 50):
 ∃ u,F_scalars_Union [A,B]=some (.lit 2 (prs u))∧validR topM (-2) u=true∧(∀ x,memR x u↔memR x a∨memR x b)∧u.length≤a.length+b.length:=by
 have h1:=scalars_set_own_run A a hA (by omega) hva [] (by intro n _ o ho;simp at ho)
 have hg1:HGood ([]++[pobj a 0 false]):=hgood_push (by intro n _ o ho;simp at ho) (pobj_cut _ _ _)
 have h2:=scalars_set_own_run B b hB (by omega) hvb ([]++[pobj a 0 false]) hg1
 obtain⟨k,h3⟩:=pobj_join (A:=[pobj a 0 false,pobj b 0 false]) (id1:=0) (id2:=1) (n1:=a.length) (n2:=b.length) (bytes:=16) (h:= .own) rfl rfl rfl rfl (by unfold roomOk;omega)
 have hg3:HGood [pobj (a++b) 0 k,pobj b 0 false]:=by
  intro n _ o ho
  simp at ho
  rcases ho with rfl | rfl <;> exact pobj_cut _ _ _ _
 have ra:=validR_all hva
 have rb:=validR_all hvb
 have rab:∀ p∈a++b,0≤p.1∧p.1≤p.2∧p.2≤topM:=fun p hp=>by
  rcases List.mem_append.1 hp with h | h
  ·exact ra p h
  ·exact rb p h
 have h4:=norm_run (a++b) (fun p hp=>by have:=rab p hp;unfold topM at this;omega) (id0:=0) [pobj (a++b) 0 k,pobj b 0 false] hg3 rfl (by omega) (by simp;omega)
 obtain⟨⟨v,H4⟩,e4,l',fl,nl,hpl,hps,hv,hg4,hget,hfl⟩:=wpO_spec h4
 dsimp only at hv hg4 hget
 subst hv
 have law:=normR_all (top:=topM) l' (fun p hp=>rab p (hpl.mem_iff.1 hp)) hps
 have hll:(normR [] l').length≤a.length+b.length:=by have:=hpl.length_eq;simp at this;omega
 have h5:=to_in_run (callLS S_norm t_scalars_Union 6) (normR [] l') H4 hg4 hget hfl (by omega)
 have hmem:∀ x,memR x (normR [] l')↔memR x a∨memR x b:=by
  intro x
  rw[law.2.1,←memR_app]
  unfold memR
  constructor
  ·rintro⟨p,h,hx⟩;exact⟨p,hpl.mem_iff.1 h,hx⟩
  ·rintro⟨p,h,hx⟩;exact⟨p,hpl.mem_iff.2 h,hx⟩
 refine⟨normR [] l',?_,law.1,hmem,hll⟩
 generalize normR [] l'=u at *
 simp only[List.nil_append,List.length_nil,List.cons_append,List.length_cons,Nat.zero_add] at h1 h2 h3
 rw[List.set_cons_zero] at h3
 have c1:∀ args H,callLS S_norm t_scalars_Union 8 1 args H=runF (callLS S_norm t_scalars_Union 7) b_scalars_set_own args H:=fun _ _=>rfl
 have c24:∀ args H,callLS S_norm t_scalars_Union 8 24 args H=runF (callLS S_norm t_scalars_Union 7) b_sets_Norm args H:=fun _ _=>rfl
 have c3:∀ args H,callLS S_norm t_scalars_Union 8 3 args H=runF (callLS S_norm t_scalars_Union 7) b_scalars_back_in args H:=fun _ _=>rfl
 have c2:∀ args H,callLS S_norm t_scalars_Union 7 2 args H=runF (callLS S_norm t_scalars_Union 6) b_sets_To_api_Range_sets_Run_in args H:=fun _ _=>rfl
 have hab:(a++b).length=a.length+b.length:=by simp
 rw[hab] at e4
 simp (implicitDefEqProofs:=false) only[F_scalars_Union,pureS,SP,WP,setRow,sevalprocAttr,-List.reduceReplicate,b_scalars_Union,c1,h1,h2,h3,c24,e4,c3,b_scalars_back_in,c2,h5]
theorem scalars_set_run (v:PV) (l:List (Int×Int)) (hv:IsL 2 v (prs l)) (hw:l.length * 16≤140737488355328) (hval:validR topM (-2) l=true):F_scalars_set [v]=some (.lit 2 (prs l)):=by
 have h1:=to_span_run v l hv hw
 rw[← to_range_eq] at h1
 have h2:=valid_run (.lit 2 (prs l)) l (.inr rfl) (by unfold maxLen;omega) topM (by decide)
 rw[hval] at h2
 simp (implicitDefEqProofs:=false) only[F_scalars_set,SP,SA,SQ,sevalprocAttr,-List.reduceReplicate,b_scalars_set,toPV_pv,deep_eq,h1,h2]
def meetR:Nat→List (Int×Int)→List (Int×Int)→List (Int×Int)
 |0,_,_=>[]
 |n+1,a,b=>match a,b with
  |p::a',q::b'=>(if (if q.1 > p.1 then q.1 else p.1)≤(if q.2 < p.2 then q.2 else p.2) then [((if q.1 > p.1 then q.1 else p.1),(if q.2 < p.2 then q.2 else p.2))] else [])++(if p.2 < q.2 then meetR n a' (q::b') else meetR n (p::a') b')
  |_,_=>[]
abbrev envMt (va vb:PV) (tk:Nat) (nl:Bool) (es:List PV):Tr:=((Tr.lf.set 5 (.uq tk nl 2 es)).set 1 (.pv vb)).set 0 (.pv va)
theorem IsL.drop1 {v:PV} {p:PV} {es:List PV} (h:IsL 2 v (p::es)):∀ H,sliceA H 2 (.pv v) (some 1) none=some (.pv (.lit 2 es)):=by
 intro H
 rcases h with⟨_,h⟩ | rfl
 ·cases h
 ·simp[sliceA]
  omega
theorem meet_run (A B:PV) (a b:List (Int×Int)) (hA:IsL 2 A (prs a)) (hB:IsL 2 B (prs b)) (hw:(a.length+b.length) * 16≤140737488355328):
 ∃ u,F_sets_Meet [A,B]=some u∧IsL 2 u (prs (meetR (a.length+b.length) a b)):=by
 have hloop:wpO (fun r=>∃ E H nl,r=(.exit 0,⟨E,H⟩)∧E.get 5= .uq 0 nl 2 (prs (meetR (a.length+b.length) a b))∧(nl=true→meetR (a.length+b.length) a b=[]))
  (loopA (roundA (evalC (callL (fun _=>none) 8) b_sets_Meet_l0) (clean 1 [0,1,5])) rounds ⟨envMt A B 0 true [],[.tok 2 0 true]⟩):=by
  refine wpO_mono (loopA_wp (g:=roundA (evalC (callL (fun _=>none) 8) b_sets_Meet_l0) (clean 1 [0,1,5]))
   (fun m t=>∃ va vb a' b' nl out,m=a'.length+b'.length∧IsL 2 va (prs a')∧IsL 2 vb (prs b')∧t=⟨envMt va vb 0 nl (prs out),[.tok 2 out.length nl]⟩∧out.length+m≤a.length+b.length∧(nl=true→out=[])∧meetR (a.length+b.length) a b=out++meetR m a' b')
   rounds (a.length+b.length) _ (by unfold rounds;omega) ⟨A,B,a,b,true,[],rfl,hA,hB,rfl,by simp,fun _=>rfl,rfl⟩ ?_) (fun r h=>h.2)
  rintro m t ⟨va,vb,a',b',nl,out,rfl,ha,hb,rfl,hlen,hnl,hs⟩
  have la:=ha.len
  have lb:=hb.len
  simp only[prs,List.length_map] at la lb
  cases a' with
  |nil=>
   have hs':meetR (a.length+b.length) a b=out:=by
    rw[hs];cases b' <;> simp[meetR]
   have z1:decide (((([]:List (Int×Int)).length:Nat):Int) > 0)=false:=by decide
   generalize hQ:LQ _ _ _=Q
   simp (implicitDefEqProofs:=false) only[SP,SA,WP,sevalprocAttr,-List.reduceReplicate,b_sets_Meet_l0,la,z1,envMt]
   subst hQ
   rw[hs']
   exact⟨_,_,nl,rfl,by simp[Tr.get_set],hnl⟩
  |cons p a'=>
   have z1:decide ((((p::a').length:Nat):Int) > 0)=true:=dec_t (by simp)
   cases b' with
   |nil=>
    have hs':meetR (a.length+b.length) a b=out:=by
     rw[hs];simp[meetR]
    have z2:decide (((([]:List (Int×Int)).length:Nat):Int) > 0)=false:=by decide
    generalize hQ:LQ _ _ _=Q
    have la':∀ H,lenA H 0 (.pv va)=some (a'.length+1):=la
    have z1':decide ((((a'.length+1):Nat):Int) > 0)=true:=z1
    have lb':∀ H,lenA H 0 (.pv vb)=some 0:=lb
    have z2':decide (((0:Nat):Int) > 0)=false:=z2
    simp (implicitDefEqProofs:=false) only[SP,SA,WP,sevalprocAttr,-List.reduceReplicate,b_sets_Meet_l0,la',lb',z1',z2',envMt]
    subst hQ
    rw[hs']
    exact⟨_,_,nl,rfl,by simp[Tr.get_set],hnl⟩
   |cons q b'=>
    have la':∀ H,lenA H 0 (.pv va)=some (a'.length+1):=la
    have z1':decide ((((a'.length+1):Nat):Int) > 0)=true:=z1
    have lb':∀ H,lenA H 0 (.pv vb)=some (b'.length+1):=lb
    have z2':decide ((((b'.length+1):Nat):Int) > 0)=true:=dec_t (by omega)
    have hva:va= .lit 2 (prs (p::a')):=ha.lit (i:=0) (by simp)
    have hvb:vb= .lit 2 (prs (q::b')):=hb.lit (i:=0) (by simp)
    have sa:=IsL.drop1 ha
    have sb:=IsL.drop1 hb
    have i1:∀ H,iaddrA' H 2 (.pv va) 0=some (.pv (.rp [i64 p.1,i64 p.2] 0)):=fun H=>by
     rw[hva];exact lit_iaddr H (i:=0) (l:=p::a') (by simp)
    have i2:∀ H,iaddrA' H 2 (.pv vb) 0=some (.pv (.rp [i64 q.1,i64 q.2] 0)):=fun H=>by
     rw[hvb];exact lit_iaddr H (i:=0) (l:=q::b') (by simp)
    have hap:=uq_append (A:=[.tok 2 out.length nl]) (id:=0) (n:=out.length) (h:= .uq) (ag:=true) (nl:=nl) (sz:=2) (bytes:=16) (es:=prs out) rfl (by simp) (by unfold roomOk;simp only[List.length_cons] at hlen;omega) (pr ((if q.1 > p.1 then q.1 else p.1),(if q.2 < p.2 then q.2 else p.2)))
    rw[List.set_cons_zero] at hap
    have hm:∀ n,meetR (n+1) (p::a') (q::b')=(if (if q.1 > p.1 then q.1 else p.1)≤(if q.2 < p.2 then q.2 else p.2) then [((if q.1 > p.1 then q.1 else p.1),(if q.2 < p.2 then q.2 else p.2))] else [])++(if p.2 < q.2 then meetR n a' (q::b') else meetR n (p::a') b'):=fun n=>rfl
    have hmn:(p::a').length+(q::b').length=(a'.length+b'.length+1)+1:=by simp;omega
    have l0:∀ H (x y:PV),loadA H false 1 (.pv (.rp [x,y] 0))=some (.pv x):=fun H x y=>rfl
    have l1:∀ H (x y:PV),loadA H false 1 (.pv (.rp [x,y] 1))=some (.pv y):=fun H x y=>rfl
    have p0:∀ H (x y:PV),place H 0 (.pv (.rp [x,y] 0))=some (.pv (.rp [x,y] 0)):=fun H x y=>rfl
    have p1:∀ H (x y:PV),place H 1 (.pv (.rp [x,y] 0))=some (.pv (.rp [x,y] 1)):=fun H x y=>rfl
    rw[hmn] at hlen
    rw[hmn,hm] at hs
    generalize hlo:(if q.1 > p.1 then q.1 else p.1)=lo at *
    generalize hhi:(if q.2 < p.2 then q.2 else p.2)=hi at *
    clear hva hvb
    have hprs:prs (out++[(lo,hi)])=prs out++[pr (lo,hi)]:=by simp[prs]
    generalize hQ:LQ _ _ _=Q
    by_cases c1:lo≤hi
    ·have d1:=dec_t c1
     rw[if_pos c1] at hs
     by_cases c2:p.2 < q.2
     ·have d2:=dec_t c2
      rw[if_pos c2] at hs
      simp (implicitDefEqProofs:=false) only[SP,WP,setRow,sevalprocAttr,-List.reduceReplicate,b_sets_Meet_l0,la',lb',z1',z2',i1,i2,l0,l1,p0,p1,bestA,bestOf,hlo,hhi,hap,d1,d2,sa,sb,clean,cutEnv,AV.cut,cutObj,deep_eq',envMt]
      subst hQ
      exact⟨a'.length+b'.length+1,by rw[hmn];omega,_,vb,a',q::b',false,out++[(lo,hi)],by simp;omega,.inr rfl,hb,by rw[hprs];simp[envMt],by simp;omega,by simp,by rw[hs,List.append_assoc]⟩
     ·have d2:=dec_f c2
      rw[if_neg c2] at hs
      simp (implicitDefEqProofs:=false) only[SP,WP,setRow,sevalprocAttr,-List.reduceReplicate,b_sets_Meet_l0,la',lb',z1',z2',i1,i2,l0,l1,p0,p1,bestA,bestOf,hlo,hhi,hap,d1,d2,sa,sb,clean,cutEnv,AV.cut,cutObj,deep_eq',envMt]
      subst hQ
      exact⟨a'.length+b'.length+1,by rw[hmn];omega,va,_,p::a',b',false,out++[(lo,hi)],by simp;omega,ha,.inr rfl,by rw[hprs];simp[envMt],by simp;omega,by simp,by rw[hs,List.append_assoc]⟩
    ·have d1:=dec_f c1
     rw[if_neg c1,List.nil_append] at hs
     by_cases c2:p.2 < q.2
     ·have d2:=dec_t c2
      rw[if_pos c2] at hs
      simp (implicitDefEqProofs:=false) only[SP,WP,setRow,sevalprocAttr,-List.reduceReplicate,b_sets_Meet_l0,la',lb',z1',z2',i1,i2,l0,l1,p0,p1,bestA,bestOf,hlo,hhi,d1,d2,sa,sb,clean,cutEnv,AV.cut,cutObj,deep_eq',envMt]
      subst hQ
      exact⟨a'.length+b'.length+1,by rw[hmn];omega,_,vb,a',q::b',nl,out,by simp;omega,.inr rfl,hb,rfl,by omega,hnl,hs⟩
     ·have d2:=dec_f c2
      rw[if_neg c2] at hs
      simp (implicitDefEqProofs:=false) only[SP,WP,setRow,sevalprocAttr,-List.reduceReplicate,b_sets_Meet_l0,la',lb',z1',z2',i1,i2,l0,l1,p0,p1,bestA,bestOf,hlo,hhi,d1,d2,sa,sb,clean,cutEnv,AV.cut,cutObj,deep_eq',envMt]
      subst hQ
      exact⟨a'.length+b'.length+1,by rw[hmn];omega,va,_,p::a',b',nl,out,by simp;omega,ha,.inr rfl,rfl,by omega,hnl,hs⟩
 obtain⟨r,h1,E,H,nl,rfl,hE,hnl⟩:=wpO_spec hloop
 simp only[envMt,prs,List.map_nil] at h1
 generalize meetR (a.length+b.length) a b=u at *
 have hz:(0 < 2)=True:=by simp
 cases nl with
 |true=>
  refine⟨.nils,?_,.inl ⟨rfl,by rw[hnl rfl];rfl⟩⟩
  simp (implicitDefEqProofs:=false) only[F_sets_Meet,SP,SA,WP,sevalprocAttr,-List.reduceReplicate,b_sets_Meet,C_loop,ghostA,hz,clean,cutEnv,AV.cut,cutObj,deep_eq',h1,hE]
 |false=>
  refine⟨.lit 2 (prs u),?_,.inr rfl⟩
  simp (implicitDefEqProofs:=false) only[F_sets_Meet,SP,SA,WP,sevalprocAttr,-List.reduceReplicate,b_sets_Meet,C_loop,ghostA,hz,clean,cutEnv,AV.cut,cutObj,deep_eq',h1,hE]
end Go.AM.B1
namespace Go.AM.B1
open Go.AM Go.AM.So
theorem validR_low {top:Int}:∀ {l:List (Int×Int)} {last:Int},validR top last l=true→∀ p∈l,last < p.1 - 1
 |q::l,last,h,p,hp=>by
  obtain⟨h1,h2,h3,h4,h5⟩:=validR_cons h
  rcases List.mem_cons.1 hp with rfl | hp
  ·omega
  ·have:=validR_low h5 p hp;omega
theorem validR_memlow {top last x:Int} {l:List (Int×Int)} (h:validR top last l=true) (hx:memR x l):last+1 < x:=by
 obtain⟨p,hp,h1,h2⟩:=hx
 have:=validR_low h p hp;omega
theorem meetR_law {top:Int}:∀ (n:Nat) (a b:List (Int×Int)) (la lb:Int),validR top la a=true→validR top lb b=true→a.length+b.length≤n→
 (∀ x,memR x (meetR n a b)↔memR x a∧memR x b)∧∀ p∈meetR n a b,p.1≤p.2
 |0,a,b,la,lb,_,_,hn=>by
  have:a=[]:=List.eq_nil_of_length_eq_zero (by omega)
  subst this
  exact⟨fun x=>by simp[meetR,memR_nil],by simp[meetR]⟩
 |n+1,[],b,la,lb,_,_,hn=>⟨fun x=>by simp[meetR,memR_nil],by simp[meetR]⟩
 |n+1,p::a,[],la,lb,_,_,hn=>⟨fun x=>by simp[meetR,memR_nil],by simp[meetR]⟩
 |n+1,p::a,q::b,la,lb,ha,hb,hn=>by
  obtain⟨a1,a2,a3,a4,a5⟩:=validR_cons ha
  obtain⟨b1,b2,b3,b4,b5⟩:=validR_cons hb
  rw[meetR]
  have hlo:p.1≤(if q.1 > p.1 then q.1 else p.1)∧q.1≤(if q.1 > p.1 then q.1 else p.1)∧((if q.1 > p.1 then q.1 else p.1)=p.1∨(if q.1 > p.1 then q.1 else p.1)=q.1):=by split <;> omega
  have hhi:(if q.2 < p.2 then q.2 else p.2)≤p.2∧(if q.2 < p.2 then q.2 else p.2)≤q.2∧((if q.2 < p.2 then q.2 else p.2)=p.2∨(if q.2 < p.2 then q.2 else p.2)=q.2):=by split <;> omega
  generalize (if q.1 > p.1 then q.1 else p.1)=lo at *
  generalize (if q.2 < p.2 then q.2 else p.2)=hi at *
  have hpc:∀ x,memR x (if lo≤hi then [(lo,hi)] else [])↔(p.1≤x∧x≤p.2)∧(q.1≤x∧x≤q.2):=by
   intro x
   by_cases h:lo≤hi
   ·rw[if_pos h,memR_one];simp only;omega
   ·rw[if_neg h]
    simp only[memR_nil,false_iff]
    omega
  have hpl:∀ r∈(if lo≤hi then [(lo,hi)] else []),r.1≤r.2:=by
   intro r hr
   by_cases h:lo≤hi
   ·rw[if_pos h] at hr;simp at hr;subst hr;exact h
   ·rw[if_neg h] at hr;simp at hr
  by_cases c:p.2 < q.2
  ·rw[if_pos c]
   have ih:=meetR_law n a (q::b) p.2 lb a5 hb (by simp at hn ⊢;omega)
   refine⟨fun x=> ?_,fun r hr=> ?_⟩
   ·rw[memR_app,hpc,ih.1,memR_cons,memR_cons]
    have hfar:memR x b→q.2+1 < x:=validR_memlow b5
    constructor
    ·rintro (⟨h1,h2⟩ | ⟨h1,h2⟩)
     ·exact⟨.inl h1,.inl h2⟩
     ·exact⟨.inr h1,h2⟩
    ·rintro⟨h1 | h1,h2⟩
     ·rcases h2 with h2 | h2
      ·exact .inl ⟨h1,h2⟩
      ·have:=hfar h2;omega
     ·exact .inr ⟨h1,h2⟩
   ·rcases List.mem_append.1 hr with h | h
    ·exact hpl r h
    ·exact ih.2 r h
  ·rw[if_neg c]
   have ih:=meetR_law n (p::a) b la q.2 ha b5 (by simp at hn ⊢;omega)
   refine⟨fun x=> ?_,fun r hr=> ?_⟩
   ·rw[memR_app,hpc,ih.1,memR_cons,memR_cons]
    have hfar:memR x a→p.2+1 < x:=validR_memlow a5
    constructor
    ·rintro (⟨h1,h2⟩ | ⟨h1,h2⟩)
     ·exact⟨.inl h1,.inl h2⟩
     ·exact⟨h1,.inr h2⟩
    ·rintro⟨h1,h2 | h2⟩
     ·rcases h1 with h1 | h1
      ·exact .inl ⟨h1,h2⟩
      ·have:=hfar h1;omega
     ·exact .inr ⟨h1,h2⟩
   ·rcases List.mem_append.1 hr with h | h
    ·exact hpl r h
    ·exact ih.2 r h
theorem meetR_some {top:Int} {a b:List (Int×Int)} (ha:validR top (-2) a=true) (hb:validR top (-2) b=true):meetR (a.length+b.length) a b≠[]↔∃ x,memR x a∧memR x b:=by
 have h:=meetR_law (a.length+b.length) a b (-2) (-2) ha hb (Nat.le_refl _)
 constructor
 ·intro hne
  obtain⟨p,r,hpr⟩:=List.exists_cons_of_ne_nil hne
  have hp:p∈meetR (a.length+b.length) a b:=by rw[hpr];simp
  exact⟨p.1,(h.1 p.1).1 ⟨p,hp,Int.le_refl _,h.2 p hp⟩⟩
 ·rintro⟨x,hx⟩ he
  have:=(h.1 x).2 hx
  rw[he] at this
  exact memR_nil x this
theorem meetR_len:∀ (n:Nat) (a b:List (Int×Int)),(meetR n a b).length≤n
 |0,a,b=>by simp[meetR]
 |n+1,[],b=>by simp[meetR]
 |n+1,p::a,[]=>by simp[meetR]
 |n+1,p::a,q::b=>by
  rw[meetR,List.length_append]
  generalize (if q.1 > p.1 then q.1 else p.1)=lo
  generalize (if q.2 < p.2 then q.2 else p.2)=hi
  have h1:(if lo≤hi then [(lo,hi)] else []).length≤1:=by
   by_cases h:lo≤hi
   ·rw[if_pos h];simp
   ·rw[if_neg h];simp
  by_cases c:p.2 < q.2
  ·rw[if_pos c];have:=meetR_len n a (q::b);omega
  ·rw[if_neg c];have:=meetR_len n (p::a) b;omega
theorem scalars_meet_run (A B:PV) (a b:List (Int×Int)) (hA:IsL 2 A (prs a)) (hB:IsL 2 B (prs b)) (hva:validR topM (-2) a=true) (hvb:validR topM (-2) b=true) (hw:(a.length+b.length) * 16≤140737488355328):
 F_scalars_Meet [A,B]=some (.lit 2 (prs (meetR (a.length+b.length) a b))):=by
 have h1:=scalars_set_run A a hA (by omega) hva
 have h2:=scalars_set_run B b hB (by omega) hvb
 obtain⟨u,h3,h4⟩:=meet_run (.lit 2 (prs a)) (.lit 2 (prs b)) a b (.inr rfl) (.inr rfl) hw
 have h5:=to_span_run u _ h4 (by have:=meetR_len (a.length+b.length) a b;omega)
 rw[← to_range2_eq] at h5
 have h6:F_scalars_back [u]=some (.lit 2 (prs (meetR (a.length+b.length) a b))):=by
  simp (implicitDefEqProofs:=false) only[F_scalars_back,SP,SA,SQ,sevalprocAttr,-List.reduceReplicate,b_scalars_back,toPV_pv,deep_eq,h5]
 simp (implicitDefEqProofs:=false) only[F_scalars_Meet,SP,SA,SQ,sevalprocAttr,-List.reduceReplicate,b_scalars_Meet,toPV_pv,deep_eq,h1,h2,h3,h6]
theorem spans_set_lit (v:PV) (l:List (Int×Int)) (hv:IsL 2 v (prs l)) (hw:l.length * 16≤140737488355328) (hval:validR 255 (-2) l=true):F_spans_set [v]=some (.lit 2 (prs l)):=by
 have h1:=to_span_run v l hv hw
 have h2:=valid_run (.lit 2 (prs l)) l (.inr rfl) (by unfold maxLen;omega) 255 (by decide)
 rw[hval] at h2
 simp (implicitDefEqProofs:=false) only[F_spans_set,SP,SA,SQ,sevalprocAttr,-List.reduceReplicate,b_spans_set,toPV_pv,deep_eq,h1,h2]
theorem spans_meet_run (A B:PV) (a b:List (Int×Int)) (hA:IsL 2 A (prs a)) (hB:IsL 2 B (prs b)) (hva:validR 255 (-2) a=true) (hvb:validR 255 (-2) b=true) (hw:(a.length+b.length) * 16≤140737488355328):
 F_spans_Meet [A,B]=some (.lit 2 (prs (meetR (a.length+b.length) a b))):=by
 have h1:=spans_set_lit A a hA (by omega) hva
 have h2:=spans_set_lit B b hB (by omega) hvb
 obtain⟨u,h3,h4⟩:=meet_run (.lit 2 (prs a)) (.lit 2 (prs b)) a b (.inr rfl) (.inr rfl) hw
 have h5:=to_span_run u _ h4 (by have:=meetR_len (a.length+b.length) a b;omega)
 rw[← to_span2_eq] at h5
 have h6:F_spans_back [u]=some (.lit 2 (prs (meetR (a.length+b.length) a b))):=by
  simp (implicitDefEqProofs:=false) only[F_spans_back,SP,SA,SQ,sevalprocAttr,-List.reduceReplicate,b_spans_back,toPV_pv,deep_eq,h5]
 simp (implicitDefEqProofs:=false) only[F_spans_Meet,SP,SA,SQ,sevalprocAttr,-List.reduceReplicate,b_spans_Meet,toPV_pv,deep_eq,h1,h2,h3,h6]
theorem sizeR_acc (n:Int) (l:List (Int×Int)):sizeR n l=n+sizeR 0 l:=by
 induction l generalizing n with
 |nil=>simp[sizeR]
 |cons p l ih=>rw[sizeR,sizeR,ih,ih (0+(p.2 - p.1+1))];omega
theorem sizeR_bound {top:Int}:∀ {l:List (Int×Int)} {last:Int},validR top last l=true→0≤sizeR 0 l∧(l≠[]→1≤sizeR 0 l∧sizeR 0 l≤top - last - 1∧sizeR 0 l≤top+1)∧sizeR 0 l≤max 0 (top+1)
 | [],last,_=>⟨by simp[sizeR],fun h=>absurd rfl h,by simp[sizeR];omega⟩
 |p::l,last,h=>by
  obtain⟨h1,h2,h3,h4,h5⟩:=validR_cons h
  have ih:=sizeR_bound h5
  rw[sizeR,sizeR_acc]
  have key:l≠[]∨l=[]:=by cases l <;> simp
  rcases key with hl | hl
  ·have:=ih.2.1 hl
   exact⟨by omega,fun _=>⟨by omega,by omega,by omega⟩,by omega⟩
  ·subst hl
   simp only[sizeR]
   exact⟨by omega,fun _=>⟨by omega,by omega,by omega⟩,by omega⟩
theorem validR_len {top:Int}:∀ {l:List (Int×Int)} {last:Int},validR top last l=true→(l.length:Int)≤max 0 (top - last)
 | [],last,_=>by simp;omega
 |p::l,last,h=>by
  obtain⟨h1,h2,h3,h4,h5⟩:=validR_cons h
  have:=validR_len h5
  simp only[List.length_cons]
  omega
theorem spans_size_run (v:PV) (l:List (Int×Int)) (hv:IsL 2 v (prs l)) (hw:l.length * 16≤140737488355328) (hval:validR 255 (-2) l=true):F_spans_Size [v]=some (i64 (sizeR 0 l)):=by
 have h1:=spans_set_lit v l hv hw hval
 have h2:=size_run (.lit 2 (prs l)) l (.inr rfl) (by unfold maxLen;omega) (top:=255) (by decide) hval
 simp (implicitDefEqProofs:=false) only[F_spans_Size,SP,SA,SQ,sevalprocAttr,-List.reduceReplicate,b_spans_Size,toPV_pv,deep_eq,h1,h2]
end Go.AM.B1
namespace Go.AM.B1
open Go.AM
theorem get_last (A:List AObj) (o:AObj):(A++[o])[A.length]? =some o:=by simp
theorem set_last (A:List AObj) (o o':AObj):(A++[o]).set A.length o'=A++[o']:=by
 apply List.ext_getElem?
 intro i
 by_cases h:i=A.length
 ·subst h;simp
 ·rw[List.getElem?_set_ne (Ne.symm h)]
  rcases Nat.lt_or_ge i A.length with h1 | h1
  ·rw[List.getElem?_append_left h1,List.getElem?_append_left h1]
  ·rw[List.getElem?_append_right h1,List.getElem?_append_right h1]
   have:i - A.length≠0:=by omega
   obtain⟨k,hk⟩:∃ k,i - A.length=k+1:=⟨i - A.length - 1,by omega⟩
   rw[hk];simp
abbrev u32 (n:Int):PV:= .int .u32 n
abbrev envB (S:PV) (x d bits len i left:Int) (ends:Bool):Tr:=
 ((((((Tr.lf.set 18 (.pv (i64 i))).set 17 (.pv (i64 len))).set 16 (.pv S)).set 9 (.pv (.bool ends))).set 8 (.pv (u32 left))).set 4 (.pv (.rp [i64 d,u32 bits] 0))).set 2 (.pv (i64 x))
def bitT (bits:Int) (i:Nat):Bool:=IntKind.u32.wrap (((BitVec.ofInt IntKind.u32.bits (bits.fdiv (2 ^ min i IntKind.u32.bits)) &&& BitVec.ofInt IntKind.u32.bits 1).toNat:Nat):Int)==1
theorem bitT_fold (bits:Int) (i:Nat):(IntKind.u32.wrap (((BitVec.ofInt IntKind.u32.bits (bits.fdiv (2 ^ min i IntKind.u32.bits)) &&& BitVec.ofInt IntKind.u32.bits 1).toNat:Nat):Int)==1)=bitT bits i:=rfl
def orT (left:Int) (i:Nat):Int:=IntKind.u32.wrap (((BitVec.ofInt IntKind.u32.bits left ||| BitVec.ofInt IntKind.u32.bits (IntKind.u32.wrap (1 * 2 ^ min i IntKind.u32.bits))).toNat:Nat):Int)
theorem orT_fold (left:Int) (i:Nat):IntKind.u32.wrap (((BitVec.ofInt IntKind.u32.bits left ||| BitVec.ofInt IntKind.u32.bits (IntKind.u32.wrap (1 * 2 ^ min i IntKind.u32.bits))).toNat:Nat):Int)=orT left i:=rfl
section
variable (call:CallF) (A:List AObj) (ss:List PV) (x bits left:Int) (d:Nat) (ends:Bool) (i len:Nat) (hi:i < len) (hl:len=ss.length) (hw:len≤maxLen) (ps:List PV) (first:Int) (hs:ss[i]? =some (.agg [.lit 1 ps,i64 first]))
include hi hl hw hs
theorem beh_off (hb:bitT bits i=false):
 roundA (evalC call b_auto_builder_behind_l0) (fun s=>some (tidy [2,4,8,9,16,17,18] s)) ⟨envB (.lit 2 ss) x d bits len i left ends,A⟩=
  some (.norm,⟨envB (.lit 2 ss) x d bits len (i+1:Nat) left ends,A++[.box [.pv (.lit 1 ps),.pv (i64 first)]]⟩):=by
 have e1:decide ((i:Int) < (len:Int))=true:=dec_t (by omega)
 have hq:idxOk (i:Int) ss.length:=by unfold idxOk;omega
 have t1:((i:Int)).toNat=i:=by simp
 have t2:=stepWrap hi hw
 have hn:((i:Int) < 0)=False:=by simp
 simp (implicitDefEqProofs:=false) only[SP,SA,SQ,sevalprocAttr,-List.reduceReplicate,roundA,b_auto_builder_behind_l0,e1,eq_true hq,t1,t2,hs,hn,bitT_fold,hb,iaddrA',get_last,set_last,tidy,keepEnv,envB]
theorem beh_out (hb:bitT bits i=true) (qs:List PV) (hp:ps[d]? =some (.lit 2 qs)) (hdl:d < ps.length) (hd:d < 4611686018427387904) (hh:C_spans_Has [.lit 2 qs,i64 x]=some (.bool false)):
 roundA (evalC call b_auto_builder_behind_l0) (fun s=>some (tidy [2,4,8,9,16,17,18] s)) ⟨envB (.lit 2 ss) x d bits len i left ends,A⟩=
  some (.norm,⟨envB (.lit 2 ss) x d bits len (i+1:Nat) left ends,A++[.box [.pv (.lit 1 ps),.pv (i64 first)]]⟩):=by
 have e1:decide ((i:Int) < (len:Int))=true:=dec_t (by omega)
 have hq:idxOk (i:Int) ss.length:=by unfold idxOk;omega
 have t1:((i:Int)).toNat=i:=by simp
 have t2:=stepWrap hi hw
 have hn:((i:Int) < 0)=False:=by simp
 have hq2:idxOk (d:Int) ps.length:=by unfold idxOk;omega
 have t3:((d:Int)).toNat=d:=by simp
 simp (implicitDefEqProofs:=false) only[SP,SA,SQ,sevalprocAttr,-List.reduceReplicate,roundA,b_auto_builder_behind_l0,e1,eq_true hq,eq_true hq2,t1,t2,t3,hs,hn,bitT_fold,hb,hp,hh,toPV_pv,deep_eq,iaddrA',get_last,set_last,tidy,keepEnv,envB]
theorem beh_in (hb:bitT bits i=true) (qs:List PV) (hp:ps[d]? =some (.lit 2 qs)) (hdl:d < ps.length) (hd:d < 4611686018427387904) (hh:C_spans_Has [.lit 2 qs,i64 x]=some (.bool true)):
 roundA (evalC call b_auto_builder_behind_l0) (fun s=>some (tidy [2,4,8,9,16,17,18] s)) ⟨envB (.lit 2 ss) x d bits len i left ends,A⟩=
  some (.norm,⟨envB (.lit 2 ss) x d bits len (i+1:Nat) (orT left i) (ends||(ps.length==d+1)),A++[.box [.pv (.lit 1 ps),.pv (i64 first)]]⟩):=by
 have e1:decide ((i:Int) < (len:Int))=true:=dec_t (by omega)
 have hq:idxOk (i:Int) ss.length:=by unfold idxOk;omega
 have t1:((i:Int)).toNat=i:=by simp
 have t2:=stepWrap hi hw
 have hn:((i:Int) < 0)=False:=by simp
 have hq2:idxOk (d:Int) ps.length:=by unfold idxOk;omega
 have t3:((d:Int)).toNat=d:=by simp
 have t4:IntKind.i64.wrap ((d:Int)+1)=((d+1:Nat):Int):=wrap_int (by omega)
 have t5:((ps.length:Int)==((d+1:Nat):Int))=(ps.length==d+1):=by
  rw[Bool.eq_iff_iff];simp;omega
 cases ends with
 |true=>simp (implicitDefEqProofs:=false) only[SP,SA,SQ,sevalprocAttr,-List.reduceReplicate,roundA,b_auto_builder_behind_l0,e1,eq_true hq,eq_true hq2,t1,t2,t3,t4,t5,hs,hn,bitT_fold,orT_fold,hb,hp,hh,toPV_pv,deep_eq,iaddrA',get_last,set_last,tidy,keepEnv,envB]
 |false=>simp (implicitDefEqProofs:=false) only[SP,SA,SQ,sevalprocAttr,-List.reduceReplicate,roundA,b_auto_builder_behind_l0,e1,eq_true hq,eq_true hq2,t1,t2,t3,t4,t5,hs,hn,bitT_fold,orT_fold,hb,hp,hh,toPV_pv,deep_eq,iaddrA',get_last,set_last,tidy,keepEnv,envB]
end
structure Shp where
 parts:List (List (Int×Int))
 first:Int
def encPart (l:List (Int×Int)):PV:= .lit 2 (prs l)
def encShp (s:Shp):PV:= .agg [.lit 1 (s.parts.map encPart),i64 s.first]
def hasR (l:List (Int×Int)) (x:Int):Bool:=(rankR x 0 (setR l)).2
def hasAt (s:Shp) (d:Nat) (x:Int):Bool:=
 match s.parts[d]? with
 |some l=>hasR l x
 |none=>false
def behS (x bits:Int) (d:Nat):Nat→List Shp→Int×Bool→Int×Bool
 |_,[],acc=>acc
 |i,s::r,acc=>behS x bits d (i+1) r (if bitT bits i&&hasAt s d x then (orT acc.1 i,acc.2||(s.parts.length==d+1)) else acc)
theorem decPairs_lit (l:List (Int×Int)):decPairs (.lit 2 (prs l))=some l:=by
 have:mapO decPair (prs l)=some l:=by
  induction l with
  |nil=>rfl
  |cons p l ih=>simp only[prs,List.map_cons,mapO,decPair,Option.bind_some] at ih ⊢;rw[ih];rfl
 exact this
theorem c_has_lit {l:List (Int×Int)} (h:l.length * 16≤140737488355328) (x:Int):C_spans_Has [encPart l,i64 x]=some (.bool (hasR l x)):=by
 simp only[C_spans_Has,encPart,decPairs_lit,Option.bind_some,if_pos h];rfl
def behJ (ss:List Shp):List AObj:=ss.map fun s=> .box [.pv (.lit 1 (s.parts.map encPart)),.pv (i64 s.first)]
section
variable (call:CallF) (H:List AObj) (id:Nat) (rest:List AV) (S:PV) (ss:List Shp) (x bits:Int) (d:Nat)
 (hid:H[id]? =some (.box (.pv S::rest))) (hS:IsL 2 S (ss.map encShp)) (hw:ss.length≤maxLen) (hd:d < 4611686018427387904)
 (hok:∀ i s,ss[i]? =some s→bitT bits i=true→d < s.parts.length) (hsz:∀ s∈ss,∀ l∈s.parts,l.length * 16≤140737488355328)
include hid hS hw hd hok hsz
theorem behind_run:runF call b_auto_builder_behind [.ptr id 0,.pv (.agg [i64 d,u32 bits]),.pv (i64 x)] H=
 some (.pv (.tup [u32 (behS x bits d 0 ss (0,false)).1,.bool (behS x bits d 0 ss (0,false)).2]),H++behJ ss):=by
 have ls:=hS.len
 simp only[List.length_map] at ls
 have key:=loopA_go (g:=roundA (evalC call b_auto_builder_behind_l0) (fun s=>some (tidy [2,4,8,9,16,17,18] s)))
  (fun i t=>∃ left ends,t=⟨envB S x d bits ss.length i left ends,H++behJ (ss.take i)⟩∧behS x bits d 0 ss (0,false)=behS x bits d i (ss.drop i) (left,ends))
  (fun ex t=>ex= .exit 0∧t=⟨(envB S x d bits ss.length ss.length (behS x bits d 0 ss (0,false)).1 (behS x bits d 0 ss (0,false)).2).set 19 (.pv (.bool false)),H++behJ ss⟩)
  rounds ss.length 0 ⟨envB S x d bits ss.length (0:Nat) 0 false,H⟩ (by unfold rounds;unfold maxLen at hw;omega) (by omega) ⟨0,false,by simp[behJ],rfl⟩ ?_ ?_
 ·obtain⟨ex,t,h,_,rfl,rfl⟩:=key
  generalize behS x bits d 0 ss (0,false)=r at *
  simp (implicitDefEqProofs:=false) only[SP,SA,SQ,sevalprocAttr,-List.reduceReplicate,b_auto_builder_behind,ls,hid,C_loopG,tidy,keepEnv,envB,h]
  simp only[envB] at h
  have h':loopA (roundA (evalC call b_auto_builder_behind_l0) (fun s=>some (tidy [2,4,8,9,16,17,18] s))) rounds ⟨((((((Tr.lf.set 18 (.pv (i64 0))).set 17 (.pv (i64 ss.length))).set 16 (.pv S)).set 9 (.pv (.bool false))).set 8 (.pv (u32 0))).set 4 (.pv (.rp [i64 d,u32 bits] 0))).set 2 (.pv (i64 x)),H⟩=_:=h
  simp only[tidy,keepEnv] at h'
  rw[h']
  simp (implicitDefEqProofs:=false) only[SP,SA,SQ,sevalprocAttr,-List.reduceReplicate,deep_eq]
 ·rintro i hi t ⟨left,ends,rfl,hb⟩
  have hlit:=hS.lit (i:=i) (by simpa using hi)
  subst hlit
  have hg:(ss.map encShp)[i]? =some (.agg [.lit 1 (ss[i].parts.map encPart),i64 ss[i].first]):=by simp[hi,encShp]
  have hdr:ss.drop i=ss[i]::ss.drop (i+1):=List.drop_eq_getElem_cons hi
  have hJ:H++behJ (ss.take (i+1))=H++behJ (ss.take i)++[.box [.pv (.lit 1 (ss[i].parts.map encPart)),.pv (i64 ss[i].first)]]:=by
   rw[List.take_succ_eq_append_getElem hi,behJ,List.map_append,List.append_assoc];rfl
  rw[hdr,behS] at hb
  cases hbit:bitT bits i with
  |false=>
   rw[hbit] at hb
   refine .inl ⟨_,beh_off call _ _ x bits left d ends i ss.length hi (by simp) hw _ _ hg hbit,left,ends,by rw[hJ],hb⟩
  |true=>
   have hdl:=hok i ss[i] (by simp[hi]) hbit
   have hp:(ss[i].parts.map encPart)[d]? =some (.lit 2 (prs ss[i].parts[d])):=by simp[hdl,encPart]
   have hc:=c_has_lit (hsz ss[i] (List.getElem_mem hi) ss[i].parts[d] (List.getElem_mem hdl)) x
   have hat:hasAt ss[i] d x=hasR ss[i].parts[d] x:=by simp[hasAt,hdl]
   rw[hbit,hat,Bool.true_and] at hb
   cases hh:hasR ss[i].parts[d] x with
   |false=>
    rw[hh] at hb hc
    refine .inl ⟨_,beh_out call _ _ x bits left d ends i ss.length hi (by simp) hw _ _ hg hbit _ hp (by simpa using hdl) hd hc,left,ends,by rw[hJ],hb⟩
   |true=>
    rw[hh] at hb hc
    refine .inl ⟨_,beh_in call _ _ x bits left d ends i ss.length hi (by simp) hw _ _ hg hbit _ hp (by simpa using hdl) hd hc,_,_,by rw[hJ],?_⟩
    rw[hb]
    simp
 ·rintro t ⟨left,ends,rfl,hb⟩
  rw[List.drop_length] at hb
  simp only[behS] at hb
  refine⟨.exit 0,_,?_,rfl,rfl,rfl⟩
  rw[hb,List.take_length]
  have e1:decide ((ss.length:Int) < (ss.length:Int))=false:=dec_f (by omega)
  simp (implicitDefEqProofs:=false) only[SP,SA,SQ,sevalprocAttr,-List.reduceReplicate,roundA,b_auto_builder_behind_l0,e1,envB]
end
end Go.AM.B1
namespace Go.AM.B1
open Go.AM
abbrev Al:=Nat×Int
def encA (a:Al):PV:= .agg [i64 a.1,u32 a.2]
def encM (l:List Al) (k:Nat):List (PV×PV):=(l.zipIdx k).map fun p=>(encA p.1,i64 p.2)
theorem encM_cons (a:Al) (l:List Al) (k:Nat):encM (a::l) k=(encA a,i64 k)::encM l (k+1):=rfl
theorem encM_push (a:Al):∀ (l:List Al) (k:Nat),encM (l++[a]) k=encM l k++[(encA a,i64 (k+l.length:Nat))]
 | [],k=>by simp[encM]
 |b::l,k=>by rw[List.cons_append,encM_cons,encM_push a l (k+1),encM_cons];simp;omega
theorem eqKd_al (a b:Al):eqKd (.row [1,1]) (encA a) (encA b)=some (decide (a=b)):=by
 obtain⟨a1,a2⟩:=a;obtain⟨b1,b2⟩:=b
 simp only[encA,eqKd,eqCells,eqCell,if_true,Option.bind_some,Option.map_some,Bool.and_true,Prod.mk.injEq,Bool.decide_and]
 congr 1
 rw[Bool.eq_iff_iff]
 simp
 intro _
 omega
def idxR (a:Al):List Al→Nat→Option Nat
 | [],_=>none
 |b::l,k=>if a=b then some k else idxR a l (k+1)
theorem find_al (a:Al):∀ (l:List Al) (k j:Nat),findM (.row [1,1]) (encA a) (encM l k) j=some ((idxR a l k).map fun i=>(j+(i - k),i64 i)):=by
 intro l
 induction l with
 |nil=>intro k j;rfl
 |cons b l ih=>
  intro k j
  rw[encM_cons,findM,eqKd_al]
  simp only[Option.bind_some,idxR]
  by_cases h:a=b
  ·simp[h]
  ·rw[if_neg h,ih]
   simp only[h,decide_false,Bool.false_eq_true,if_false,Option.some.injEq]
   cases hi:idxR a l (k+1) with
   |none=>rfl
   |some i=>
    have:k+1≤i:=by
     clear ih
     induction l generalizing k with
     |nil=>simp[idxR] at hi
     |cons c l ihl=>
      simp only[idxR] at hi
      split at hi
      ·injection hi with hi;omega
      ·have:=ihl (k+1) hi;omega
    simp only[Option.map_some,Option.some.injEq,Prod.mk.injEq,and_true]
    omega
abbrev bld (R0 R1:AObj) (S:PV) (nl:Bool) (sets:List Al) (rows:AObj) (n:Nat) (T:List AObj):List AObj:=
 R0::R1:: .map (encM sets 0):: .box [.pv S,.mp 2,.uq 4 nl 2 (sets.map encA),.own 5 n]:: .tok 2 sets.length nl::rows::T
section
variable (call:CallF) (R0 R1:AObj) (S:PV) (nl:Bool) (sets:List Al) (rows:AObj) (n:Nat) (T:List AObj) (a:Al)
theorem met_old {i:Nat} (h:idxR a sets 0=some i):
 runF call b_auto_builder_met [.ptr 3 0,.pv (encA a)] (bld R0 R1 S nl sets rows n T)=some (.pv (.tup [i64 i,.bool true]),bld R0 R1 S nl sets rows n T):=by
 have hf:=find_al a sets 0 0
 rw[h] at hf
 simp only[Option.map_some] at hf
 have hk:(eqKd (.row [1,1]) (encA a) (encA a)).isSome=true:=by rw[eqKd_al];rfl
 simp only[encA] at hf hk
 simp (implicitDefEqProofs:=false) only[SP,SA,SQ,sevalprocAttr,-List.reduceReplicate,encA,b_auto_builder_met,hf,eq_true hk]
theorem met_full (h:idxR a sets 0=none) (hl:sets.length=64):
 runF call b_auto_builder_met [.ptr 3 0,.pv (encA a)] (bld R0 R1 S nl sets rows n T)=some (.pv (.tup [i64 0,.bool false]),bld R0 R1 S nl sets rows n T):=by
 have hf:=find_al a sets 0 0
 rw[h] at hf
 simp only[Option.map_none] at hf
 have hk:(eqKd (.row [1,1]) (encA a) (encA a)).isSome=true:=by rw[eqKd_al];rfl
 have e1:(((sets.map encA).length:Int)==64)=true:=by simp[hl]
 simp only[encA] at hf hk
 simp (implicitDefEqProofs:=false) only[SP,SA,SQ,sevalprocAttr,-List.reduceReplicate,b_auto_builder_met,encA,hf,eq_true hk,e1]
theorem met_new (h:idxR a sets 0=none) (hl:sets.length < 64):
 runF call b_auto_builder_met [.ptr 3 0,.pv (encA a)] (bld R0 R1 S nl sets rows n T)=some (.pv (.tup [i64 sets.length,.bool true]),bld R0 R1 S false (sets++[a]) rows n T):=by
 have hf:=find_al a sets 0 0
 rw[h] at hf
 simp only[Option.map_none] at hf
 have hk:(eqKd (.row [1,1]) (encA a) (encA a)).isSome=true:=by rw[eqKd_al];rfl
 have e1:((sets.length:Int)==64)=false:=beq_ne (by omega)
 have hp:=encM_push a sets 0
 rw[Nat.zero_add] at hp
 have q1:roomOk (sets.length+1) 16:=by unfold roomOk;omega
 have hlen:(sets.map encA).length=sets.length:=by simp
 have hlen2:(sets++[a]).length=sets.length+1:=by simp
 have hmap:(sets++[a]).map encA=sets.map encA++[encA a]:=by simp
 unfold bld
 rw[hp,hlen2,hmap]
 simp only[encA] at hf hk ⊢
 simp (implicitDefEqProofs:=false) only[SP,SA,SQ,sevalprocAttr,-List.reduceReplicate,b_auto_builder_met,hf,eq_true hk,e1,hlen,eq_true q1,partE,AV.pvu,AV.pvu1]
end
end Go.AM.B1
namespace Go.AM.B1
open Go.AM
theorem cutO_box (n:Nat) (cs:List AV):cutObj n (.box cs)=(mapO (AV.cut n deep) cs).map .box:=rfl
theorem cutO_map (n:Nat) (es:List (PV×PV)):cutObj n (.map es)=some (.map es):=rfl
theorem cutO_seq (n sz:Nat) (ag:Bool) (cs:List AV) (fl:Nat) (nl:Bool):cutObj n (.seq sz ag cs fl nl)=if cs.all (AV.keep n deep)=true then some (.seq sz ag cs fl nl) else none:=rfl
theorem cutO_tok (n sz m:Nat) (nl:Bool):cutObj n (.tok sz m nl)=some (.tok sz m nl):=rfl
def stepX (ss:List Shp) (a:Al) (x:Int) (sets:List Al):Option (List Al×Int):=
 if (behS x a.2 a.1 0 ss (0,false)).1=0 then some (sets,-2)
 else if (behS x a.2 a.1 0 ss (0,false)).2=true then some (sets,-1)
 else match idxR (a.1+1,(behS x a.2 a.1 0 ss (0,false)).1) sets 0 with
  |some k=>some (sets,(k:Int))
  |none=>if sets.length < 64 then some (sets++[(a.1+1,(behS x a.2 a.1 0 ss (0,false)).1)],(sets.length:Int)) else none
inductive retIsH (k:Nat) (v:AV) (o:AObj):Option (Ex×St)→Prop
 |mk (s:St):s.env.get k=v→s.H[0]? =some o→retIsH k v o (some (.ret,s))
theorem retIsH_ret {k:Nat} {v:AV} {o:AObj} {s:St}:retIsH k v o (some (.ret,s))=(s.env.get k=v∧s.H[0]? =some o):=
 propext ⟨fun h=>by cases h with | mk _ h h'=>exact⟨h,h'⟩,fun h=> .mk s h.1 h.2⟩
theorem retIsH_spec {k:Nat} {v:AV} {o:AObj} {r:Option (Ex×St)} (h:retIsH k v o r):∃ t,r=some (.ret,t)∧t.env.get k=v∧t.H[0]? =some o:=by
 cases h with | mk s h h'=>exact⟨s,rfl,h,h'⟩
def rowA (l:List Int):List AV:=l.map fun n=> .pv (i64 n)
theorem rowA_set (l:List Int) (x:Nat) (v:Int):(rowA l).set x (.pv (i64 v))=rowA (l.set x v):=by simp[rowA,List.map_set]
theorem rowA_len (l:List Int):(rowA l).length=l.length:=by simp[rowA]
theorem cut_rowA (n d:Nat) (l:List Int):mapO (AV.cut n d) (rowA l)=some (rowA l):=by
 induction l with
 |nil=>rfl
 |cons a l ih=>simp only[rowA,List.map_cons,mapO,cut_pv,Option.bind_some] at ih ⊢;rw[ih];rfl
abbrev envW (i x:Int):Tr:=(((Tr.lf.set 30 (.pv (i64 x))).set 4 (.ptr 6 0)).set 3 (.pv (i64 i))).set 0 (.ptr 3 0)
section
variable (R0 R1:AObj) (S:PV) (nl:Bool) (sets:List Al) (rows:AObj) (n:Nat) (row:List Int) (ss:List Shp) (i x:Nat) (a:Al)
 (h0:cutObj 7 R0=some R0) (h1:cutObj 7 R1=some R1) (hr:cutObj 7 rows=some rows) (hrow:row.length=256) (hx:x < 256)
 (hi:i < sets.length) (ha:(sets.map encA)[i]? =some (.agg [i64 a.1,u32 a.2])) (had:a.1 < 4611686018427387904)
 (hS:IsL 2 S (ss.map encShp)) (hw:ss.length≤maxLen)
 (hok:∀ i s,ss[i]? =some s→bitT a.2 i=true→a.1 < s.parts.length) (hsz:∀ s∈ss,∀ l∈s.parts,l.length * 16≤140737488355328)
include h0 h1 hr hrow hx hi ha had hS hw hok hsz
theorem walk_none (hb:(behS x a.2 a.1 0 ss (0,false)).1=0):
 roundL (callL t_auto_Build 7) [0,3,4,30] b_auto_builder_walk_l1 7 ⟨envW i x,bld R0 R1 S nl sets rows n [.box (rowA row)]⟩=
  some (.norm,⟨envW i (x+1:Nat),bld R0 R1 S nl sets rows n [.box (rowA (row.set x (-2)))]⟩):=by
 have e1:decide ((x:Int) < 256)=true:=dec_t (by omega)
 have hlen:(sets.map encA).length=sets.length:=by simp
 have hq:idxOk (i:Int) sets.length:=by unfold idxOk;omega
 have hq2:idxOk (x:Int) 256:=by unfold idxOk;omega
 have t1:((i:Int)).toNat=i:=by simp
 have t3:((x:Int)).toNat=x:=by simp
 have t2:=stepWrap (i:=x) (n:=256) hx (by unfold maxLen;omega)
 have hbeh:=behind_run (callL t_auto_Build 6) (bld R0 R1 S nl sets rows n [.box (rowA row)]) 3 _ S ss x a.2 a.1 rfl hS hw had hok hsz
 rw[hb] at hbeh
 have hle:x+1≤(rowA row).length:=by rw[rowA_len];omega
 have hz:(((0:Nat)+x+1)≤(rowA row).length)=True:=by simp only[eq_iff_iff,iff_true];omega
 simp only[bld,List.cons_append,List.nil_append] at hbeh
 generalize (behS x a.2 a.1 0 ss (0,false)).2=ends at *
 simp (implicitDefEqProofs:=false) only[SP,SA,SQ,sevalprocAttr,-List.reduceReplicate,roundL,roundA,b_auto_builder_walk_l1,t_auto_Build,e1,hlen,eq_true hq,eq_true hq2,t1,t2,t3,ha,hbeh,hz,eq_true hle,rowA_set,iaddrA',clean,cutEnv,cutO_box,cutO_map,cutO_tok,cut_pv,cut_rowA,AV.cut,deep_eq,h0,h1,hr,envW,bld]
theorem walk_end (hb:(behS x a.2 a.1 0 ss (0,false)).1≠0) (hb2:(behS x a.2 a.1 0 ss (0,false)).2=true):
 roundL (callL t_auto_Build 7) [0,3,4,30] b_auto_builder_walk_l1 7 ⟨envW i x,bld R0 R1 S nl sets rows n [.box (rowA row)]⟩=
  some (.norm,⟨envW i (x+1:Nat),bld R0 R1 S nl sets rows n [.box (rowA (row.set x (-1)))]⟩):=by
 have e1:decide ((x:Int) < 256)=true:=dec_t (by omega)
 have hlen:(sets.map encA).length=sets.length:=by simp
 have hq:idxOk (i:Int) sets.length:=by unfold idxOk;omega
 have hq2:idxOk (x:Int) 256:=by unfold idxOk;omega
 have t1:((i:Int)).toNat=i:=by simp
 have t3:((x:Int)).toNat=x:=by simp
 have t2:=stepWrap (i:=x) (n:=256) hx (by unfold maxLen;omega)
 have hbeh:=behind_run (callL t_auto_Build 6) (bld R0 R1 S nl sets rows n [.box (rowA row)]) 3 _ S ss x a.2 a.1 rfl hS hw had hok hsz
 rw[hb2] at hbeh
 have hle:x+1≤(rowA row).length:=by rw[rowA_len];omega
 have hz:(((0:Nat)+x+1)≤(rowA row).length)=True:=by simp only[eq_iff_iff,iff_true];omega
 simp only[bld,List.cons_append,List.nil_append] at hbeh
 have e4:=beq_ne hb
 generalize (behS x a.2 a.1 0 ss (0,false)).1=left at *
 simp (implicitDefEqProofs:=false) only[SP,SA,SQ,sevalprocAttr,-List.reduceReplicate,roundL,roundA,b_auto_builder_walk_l1,t_auto_Build,e1,hlen,eq_true hq,eq_true hq2,t1,t2,t3,ha,hbeh,e4,hz,eq_true hle,rowA_set,iaddrA',clean,cutEnv,cutO_box,cutO_map,cutO_tok,cut_pv,cut_rowA,AV.cut,deep_eq,h0,h1,hr,envW,bld]
theorem walk_old (hb:(behS x a.2 a.1 0 ss (0,false)).1≠0) (hb2:(behS x a.2 a.1 0 ss (0,false)).2=false) {k:Nat} (hk:idxR (a.1+1,(behS x a.2 a.1 0 ss (0,false)).1) sets 0=some k):
 roundL (callL t_auto_Build 7) [0,3,4,30] b_auto_builder_walk_l1 7 ⟨envW i x,bld R0 R1 S nl sets rows n [.box (rowA row)]⟩=
  some (.norm,⟨envW i (x+1:Nat),bld R0 R1 S nl sets rows n [.box (rowA (row.set x k))]⟩):=by
 have e1:decide ((x:Int) < 256)=true:=dec_t (by omega)
 have hlen:(sets.map encA).length=sets.length:=by simp
 have hq:idxOk (i:Int) sets.length:=by unfold idxOk;omega
 have hq2:idxOk (x:Int) 256:=by unfold idxOk;omega
 have t1:((i:Int)).toNat=i:=by simp
 have t3:((x:Int)).toNat=x:=by simp
 have t2:=stepWrap (i:=x) (n:=256) hx (by unfold maxLen;omega)
 have hbeh:=behind_run (callL t_auto_Build 6) (bld R0 R1 S nl sets rows n [.box (rowA row)]) 3 _ S ss x a.2 a.1 rfl hS hw had hok hsz
 rw[hb2] at hbeh
 have hle:x+1≤(rowA row).length:=by rw[rowA_len];omega
 have hz:(((0:Nat)+x+1)≤(rowA row).length)=True:=by simp only[eq_iff_iff,iff_true];omega
 simp only[bld,List.cons_append,List.nil_append] at hbeh
 have e4:=beq_ne hb
 have t5:IntKind.i64.wrap ((a.1:Int)+1)=((a.1+1:Nat):Int):=wrap_int (by omega)
 have hmet:=met_old (callL t_auto_Build 6) R0 R1 S nl sets rows n (.box (rowA row)::behJ ss) (a.1+1,(behS x a.2 a.1 0 ss (0,false)).1) hk
 simp only[bld,encA] at hmet
 generalize (behS x a.2 a.1 0 ss (0,false)).1=left at *
 simp (implicitDefEqProofs:=false) only[SP,SA,SQ,sevalprocAttr,-List.reduceReplicate,roundL,roundA,b_auto_builder_walk_l1,t_auto_Build,e1,hlen,eq_true hq,eq_true hq2,t1,t2,t3,ha,hbeh,hmet,t5,e4,hz,eq_true hle,rowA_set,iaddrA',clean,cutEnv,cutO_box,cutO_map,cutO_tok,cut_pv,cut_rowA,AV.cut,deep_eq,h0,h1,hr,envW,bld]
theorem walk_new (hb:(behS x a.2 a.1 0 ss (0,false)).1≠0) (hb2:(behS x a.2 a.1 0 ss (0,false)).2=false) (hk:idxR (a.1+1,(behS x a.2 a.1 0 ss (0,false)).1) sets 0=none) (hl:sets.length < 64):
 roundL (callL t_auto_Build 7) [0,3,4,30] b_auto_builder_walk_l1 7 ⟨envW i x,bld R0 R1 S nl sets rows n [.box (rowA row)]⟩=
  some (.norm,⟨envW i (x+1:Nat),bld R0 R1 S false (sets++[(a.1+1,(behS x a.2 a.1 0 ss (0,false)).1)]) rows n [.box (rowA (row.set x (sets.length:Int)))]⟩):=by
 have e1:decide ((x:Int) < 256)=true:=dec_t (by omega)
 have hlen:(sets.map encA).length=sets.length:=by simp
 have hq:idxOk (i:Int) sets.length:=by unfold idxOk;omega
 have hq2:idxOk (x:Int) 256:=by unfold idxOk;omega
 have t1:((i:Int)).toNat=i:=by simp
 have t3:((x:Int)).toNat=x:=by simp
 have t2:=stepWrap (i:=x) (n:=256) hx (by unfold maxLen;omega)
 have hbeh:=behind_run (callL t_auto_Build 6) (bld R0 R1 S nl sets rows n [.box (rowA row)]) 3 _ S ss x a.2 a.1 rfl hS hw had hok hsz
 rw[hb2] at hbeh
 have hle:x+1≤(rowA row).length:=by rw[rowA_len];omega
 have hz:(((0:Nat)+x+1)≤(rowA row).length)=True:=by simp only[eq_iff_iff,iff_true];omega
 simp only[bld,List.cons_append,List.nil_append] at hbeh
 have e4:=beq_ne hb
 have t5:IntKind.i64.wrap ((a.1:Int)+1)=((a.1+1:Nat):Int):=wrap_int (by omega)
 have hmet:=met_new (callL t_auto_Build 6) R0 R1 S nl sets rows n (.box (rowA row)::behJ ss) (a.1+1,(behS x a.2 a.1 0 ss (0,false)).1) hk hl
 simp only[bld,encA] at hmet ⊢
 generalize (behS x a.2 a.1 0 ss (0,false)).1=left at *
 simp (implicitDefEqProofs:=false) only[SP,SA,SQ,sevalprocAttr,-List.reduceReplicate,roundL,roundA,b_auto_builder_walk_l1,t_auto_Build,e1,hlen,eq_true hq,eq_true hq2,t1,t2,t3,ha,hbeh,hmet,t5,e4,hz,eq_true hle,rowA_set,iaddrA',clean,cutEnv,cutO_box,cutO_map,cutO_tok,cut_pv,cut_rowA,AV.cut,deep_eq,h0,h1,hr,envW,bld]
end
section
variable (R0 R1:AObj) (S:PV) (nl:Bool) (sets:List Al) (rows:AObj) (n:Nat) (row:List Int) (ss:List Shp) (i x:Nat) (a:Al)
 (hrow:row.length=256) (hx:x < 256)
 (hi:i < sets.length) (ha:(sets.map encA)[i]? =some (.agg [i64 a.1,u32 a.2])) (had:a.1 < 4611686018427387904)
 (hS:IsL 2 S (ss.map encShp)) (hw:ss.length≤maxLen)
 (hok:∀ i s,ss[i]? =some s→bitT a.2 i=true→a.1 < s.parts.length) (hsz:∀ s∈ss,∀ l∈s.parts,l.length * 16≤140737488355328)
include hrow hx hi ha had hS hw hok hsz
theorem walk_full (hb:(behS x a.2 a.1 0 ss (0,false)).1≠0) (hb2:(behS x a.2 a.1 0 ss (0,false)).2=false) (hk:idxR (a.1+1,(behS x a.2 a.1 0 ss (0,false)).1) sets 0=none) (hl:sets.length=64):
 retIsH 2 (.pv (.bool false)) R0 (roundL (callL t_auto_Build 7) [0,3,4,30] b_auto_builder_walk_l1 7 ⟨envW i x,bld R0 R1 S nl sets rows n [.box (rowA row)]⟩):=by
 have e1:decide ((x:Int) < 256)=true:=dec_t (by omega)
 have hlen:(sets.map encA).length=sets.length:=by simp
 have hq:idxOk (i:Int) sets.length:=by unfold idxOk;omega
 have hq2:idxOk (x:Int) 256:=by unfold idxOk;omega
 have t1:((i:Int)).toNat=i:=by simp
 have t3:((x:Int)).toNat=x:=by simp
 have t2:=stepWrap (i:=x) (n:=256) hx (by unfold maxLen;omega)
 have hbeh:=behind_run (callL t_auto_Build 6) (bld R0 R1 S nl sets rows n [.box (rowA row)]) 3 _ S ss x a.2 a.1 rfl hS hw had hok hsz
 rw[hb2] at hbeh
 have hle:x+1≤(rowA row).length:=by rw[rowA_len];omega
 have hz:(((0:Nat)+x+1)≤(rowA row).length)=True:=by simp only[eq_iff_iff,iff_true];omega
 simp only[bld,List.cons_append,List.nil_append] at hbeh
 have e4:=beq_ne hb
 have t5:IntKind.i64.wrap ((a.1:Int)+1)=((a.1+1:Nat):Int):=wrap_int (by omega)
 have hmet:=met_full (callL t_auto_Build 6) R0 R1 S nl sets rows n (.box (rowA row)::behJ ss) (a.1+1,(behS x a.2 a.1 0 ss (0,false)).1) hk hl
 simp only[bld,encA] at hmet
 generalize (behS x a.2 a.1 0 ss (0,false)).1=left at *
 simp (implicitDefEqProofs:=false) only[SP,SA,SQ,sevalprocAttr,-List.reduceReplicate,roundL,roundA,b_auto_builder_walk_l1,t_auto_Build,e1,hlen,eq_true hq,eq_true hq2,t1,t2,t3,ha,hbeh,hmet,t5,e4,retIsH_ret,hz,eq_true hle,rowA_set,iaddrA',envW,bld]
end
end Go.AM.B1
namespace Go.AM.B1
open Go.AM
def rowS (ss:List Shp) (a:Al):List Nat→List Al×List Int→Option (List Al×List Int)
 | [],r=>some r
 |x::xs,r=>match stepX ss a x r.1 with
  |some p=>rowS ss a xs (p.1,r.2.set x p.2)
  |none=>none
theorem rowS_none {ss:List Shp} {a:Al} {x:Nat} {xs:List Nat} {r:List Al×List Int} (h:stepX ss a x r.1=none):rowS ss a (x::xs) r=none:=by
 rw[rowS,h]
theorem rowS_some {ss:List Shp} {a:Al} {x:Nat} {xs:List Nat} {r:List Al×List Int} {p:List Al×Int} (h:stepX ss a x r.1=some p):rowS ss a (x::xs) r=rowS ss a xs (p.1,r.2.set x p.2):=by
 rw[rowS,h]
theorem range_drop {n x:Nat} (h:x < n):(List.range n).drop x=x::(List.range n).drop (x+1):=by
 rw[List.drop_eq_getElem_cons (by simpa using h)];simp
theorem stepX_grows {ss:List Shp} {a:Al} {x:Int} {sets:List Al} {r:List Al×Int} (h:stepX ss a x sets=some r) (hl:sets.length≤64):r.1.length≤64∧∃ t,r.1=sets++t:=by
 unfold stepX at h
 split at h
 ·injection h with h;subst h;exact⟨hl,[],by simp⟩
 ·split at h
  ·injection h with h;subst h;exact⟨hl,[],by simp⟩
  ·split at h
   ·injection h with h;subst h;exact⟨hl,[],by simp⟩
   ·split at h
    ·injection h with h;subst h;exact⟨by simp;omega,_,rfl⟩
    ·cases h
section
variable (R0 R1:AObj) (S:PV) (rows:AObj) (n:Nat) (ss:List Shp)
 (h0:cutObj 7 R0=some R0) (h1:cutObj 7 R1=some R1) (hr:cutObj 7 rows=some rows)
 (hS:IsL 2 S (ss.map encShp)) (hw:ss.length≤maxLen)
 (hsz:∀ s∈ss,∀ l∈s.parts,l.length * 16≤140737488355328)
include h0 h1 hr hS hw hsz
theorem step_round {nl:Bool} {sets:List Al} {row:List Int} {i x:Nat} {a:Al} (hrow:row.length=256) (hx:x < 256) (ha:sets[i]? =some a) (had:a.1 < 4611686018427387904) (hl:sets.length≤64)
 (hok:∀ i s,ss[i]? =some s→bitT a.2 i=true→a.1 < s.parts.length):
 (∀ r,stepX ss a x sets=some r→∃ nl',roundL (callL t_auto_Build 7) [0,3,4,30] b_auto_builder_walk_l1 7 ⟨envW i x,bld R0 R1 S nl sets rows n [.box (rowA row)]⟩=
  some (.norm,⟨envW i (x+1:Nat),bld R0 R1 S nl' r.1 rows n [.box (rowA (row.set x r.2))]⟩))∧
 (stepX ss a x sets=none→retIsH 2 (.pv (.bool false)) R0 (roundL (callL t_auto_Build 7) [0,3,4,30] b_auto_builder_walk_l1 7 ⟨envW i x,bld R0 R1 S nl sets rows n [.box (rowA row)]⟩)):=by
 have hi:i < sets.length:=(List.getElem?_eq_some_iff.1 ha).1
 have ha':(sets.map encA)[i]? =some (.agg [i64 a.1,u32 a.2]):=by rw[List.getElem?_map,ha];rfl
 by_cases hb:(behS x a.2 a.1 0 ss (0,false)).1=0
 ·have hst:=(show stepX ss a x sets=some (sets,-2) by unfold stepX;rw[if_pos hb])
  rw[hst]
  exact⟨fun r e=>by injection e with e;subst e;exact⟨nl,walk_none R0 R1 S nl sets rows n row ss i x a h0 h1 hr hrow hx hi ha' had hS hw hok hsz hb⟩,fun e=>by cases e⟩
 by_cases hb2:(behS x a.2 a.1 0 ss (0,false)).2=true
 ·have hst:=(show stepX ss a x sets=some (sets,-1) by unfold stepX;rw[if_neg hb,if_pos hb2])
  rw[hst]
  exact⟨fun r e=>by injection e with e;subst e;exact⟨nl,walk_end R0 R1 S nl sets rows n row ss i x a h0 h1 hr hrow hx hi ha' had hS hw hok hsz hb hb2⟩,fun e=>by cases e⟩
 have hb3:(behS x a.2 a.1 0 ss (0,false)).2=false:=by simpa using hb2
 cases hk:idxR (a.1+1,(behS x a.2 a.1 0 ss (0,false)).1) sets 0 with
 |some k=>
  have hst:=(show stepX ss a x sets=some (sets,(k:Int)) by unfold stepX;rw[if_neg hb,if_neg hb2,hk])
  rw[hst]
  exact⟨fun r e=>by injection e with e;subst e;exact⟨nl,walk_old R0 R1 S nl sets rows n row ss i x a h0 h1 hr hrow hx hi ha' had hS hw hok hsz hb hb3 hk⟩,fun e=>by cases e⟩
 |none=>
  by_cases hlt:sets.length < 64
  ·have hst:=(show stepX ss a x sets=some (sets++[(a.1+1,(behS x a.2 a.1 0 ss (0,false)).1)],(sets.length:Int)) by unfold stepX;rw[if_neg hb,if_neg hb2,hk];simp only[if_pos hlt])
   rw[hst]
   exact⟨fun r e=>by injection e with e;subst e;exact⟨false,walk_new R0 R1 S nl sets rows n row ss i x a h0 h1 hr hrow hx hi ha' had hS hw hok hsz hb hb3 hk hlt⟩,fun e=>by cases e⟩
  ·have hst:=(show stepX ss a x sets=none by unfold stepX;rw[if_neg hb,if_neg hb2,hk];simp only[if_neg hlt])
   rw[hst]
   exact⟨fun r e=>(by cases e),fun _=>walk_full R0 R1 S nl sets rows n row ss i x a hrow hx hi ha' had hS hw hok hsz hb hb3 hk (by omega)⟩
theorem row_loop {nl:Bool} {sets:List Al} {row:List Int} {i:Nat} {a:Al} (hrow:row.length=256) (ha:sets[i]? =some a) (had:a.1 < 4611686018427387904) (hl:sets.length≤64)
 (hok:∀ i s,ss[i]? =some s→bitT a.2 i=true→a.1 < s.parts.length):
 (∀ r,rowS ss a (List.range 256) (sets,row)=some r→∃ nl',loopA (roundA (evalC (callL t_auto_Build 7) b_auto_builder_walk_l1) (clean 7 [0,3,4,30])) rounds ⟨envW i 0,bld R0 R1 S nl sets rows n [.box (rowA row)]⟩=
  some (.exit 2,⟨(envW i 256).set 31 (.pv (.bool false)),bld R0 R1 S nl' r.1 rows n [.box (rowA r.2)]⟩)∧r.1.length≤64∧r.2.length=256∧∃ t,r.1=sets++t)∧
 (rowS ss a (List.range 256) (sets,row)=none→retIsH 2 (.pv (.bool false)) R0 (loopA (roundA (evalC (callL t_auto_Build 7) b_auto_builder_walk_l1) (clean 7 [0,3,4,30])) rounds ⟨envW i 0,bld R0 R1 S nl sets rows n [.box (rowA row)]⟩)):=by
 generalize hxs:List.range 256=xs
 have key:=loopA_go (g:=roundL (callL t_auto_Build 7) [0,3,4,30] b_auto_builder_walk_l1 7)
  (fun x t=>∃ nl' sets' row',t=⟨envW i x,bld R0 R1 S nl' sets' rows n [.box (rowA row')]⟩∧rowS ss a xs (sets,row)=rowS ss a (xs.drop x) (sets',row')∧sets'.length≤64∧row'.length=256∧∃ t,sets'=sets++t)
  (fun ex t=>(∃ r,ex= .exit 2∧rowS ss a xs (sets,row)=some r∧∃ nl',t=⟨(envW i 256).set 31 (.pv (.bool false)),bld R0 R1 S nl' r.1 rows n [.box (rowA r.2)]⟩∧r.1.length≤64∧r.2.length=256∧∃ t,r.1=sets++t)∨
   (ex= .ret∧rowS ss a xs (sets,row)=none∧t.env.get 2= .pv (.bool false)∧t.H[0]? =some R0))
  rounds 256 0 ⟨envW i (0:Nat),bld R0 R1 S nl sets rows n [.box (rowA row)]⟩ (by unfold rounds;omega) (by omega) ⟨nl,sets,row,rfl,rfl,hl,hrow,[],by simp⟩ ?_ ?_
 ·obtain⟨ex,t,h,_,hq⟩:=key
  have h':loopA (roundA (evalC (callL t_auto_Build 7) b_auto_builder_walk_l1) (clean 7 [0,3,4,30])) rounds ⟨envW i 0,bld R0 R1 S nl sets rows n [.box (rowA row)]⟩=some (ex,t):=h
  rw[h']
  rcases hq with⟨r,rfl,hr',nl',rfl,q1,q2,q3⟩ | ⟨rfl,hr',hg,hg2⟩
  ·refine⟨fun r2 e=> ?_,fun e=> ?_⟩
   ·rw[hr'] at e;injection e with e;subst e;exact⟨nl',rfl,q1,q2,q3⟩
   ·rw[hr'] at e;cases e
  ·refine⟨fun r2 e=> ?_,fun _=> .mk _ hg hg2⟩
   rw[hr'] at e;cases e
 ·rintro x hx t ⟨nl',sets',row',rfl,hrs,hl',hrow',tl,hts⟩
  have ha':sets'[i]? =some a:=by
   rw[hts,List.getElem?_append_left (List.getElem?_eq_some_iff.1 ha).1];exact ha
  have hd:=range_drop hx
  rw[hxs] at hd
  have hsr:=step_round R0 R1 S rows n ss h0 h1 hr hS hw hsz (nl:=nl') hrow' hx ha' had hl' hok
  rw[hd] at hrs
  cases hst:stepX ss a x sets' with
  |none=>
   rw[rowS_none hst] at hrs
   obtain⟨t,g1,g2,g3⟩:=retIsH_spec (hsr.2 hst)
   exact .inr ⟨.ret,t,g1,rfl,.inr ⟨rfl,hrs,g2,g3⟩⟩
  |some r=>
   rw[rowS_some hst] at hrs
   obtain⟨nl2,g1⟩:=hsr.1 r hst
   obtain⟨k1,t2,k2⟩:=stepX_grows hst hl'
   exact .inl ⟨_,g1,nl2,r.1,row'.set x r.2,rfl,hrs,k1,by simpa using hrow',tl++t2,by rw[k2,hts,List.append_assoc]⟩
 ·rintro t ⟨nl',sets',row',rfl,hrs,hl',hrow',tl,hts⟩
  rw[List.drop_eq_nil_of_le (by rw[← hxs,List.length_range];exact Nat.le_refl _)] at hrs
  refine⟨.exit 2,_,?_,rfl,.inl ⟨(sets',row'),rfl,hrs,nl',rfl,hl',hrow',tl,hts⟩⟩
  have e1:decide (((256:Nat):Int) < 256)=false:=by decide
  simp (implicitDefEqProofs:=false) only[SP,SA,SQ,sevalprocAttr,-List.reduceReplicate,roundL,roundA,b_auto_builder_walk_l1,e1,envW,bld]
end
end Go.AM.B1
namespace Go.AM.B1
open Go.AM
def rowsO (rs:List (List Int)):AObj:= .seq 256 true (rs.flatMap rowA) 0 rs.isEmpty
theorem rowA_map (l:List Int):rowA l=(l.map i64).map .pv:=by simp[rowA]
theorem allPV_row (l:List Int):allPV (rowA l)=some (l.map i64):=by
 rw[rowA_map]
 induction l with
 |nil=>rfl
 |cons a l ih=>simp only[List.map_cons,allPV,ih,Option.map_some]
theorem rowA_one (l:List Int):(rowA l).all AV.one=true:=by
 induction l with
 |nil=>rfl
 |cons a l ih=>simp only[rowA,List.map_cons,List.all_cons,AV.one,Bool.true_and] at ih ⊢;exact ih
theorem rowZ:List.map AV.pv (List.replicate 256 (PV.int .i64 0))=rowA (List.replicate 256 0):=by
 simp only[rowA,List.map_replicate]
theorem setRow_all {α:Type}:∀ (vs cs pre:List α),cs.length=vs.length→setRow (pre++cs) pre.length vs=pre++vs
 | [],cs,pre,h=>by simp at h;subst h;rfl
 |v::vs,c::cs,pre,h=>by
  rw[setRow]
  have h1:(pre++c::cs).set pre.length v=(pre++[v])++cs:=by
   rw[List.set_append_right _ _ (Nat.le_refl _)];simp
  rw[h1]
  have:=setRow_all vs cs (pre++[v]) (by simpa using h)
  simp only[List.length_append,List.length_cons,List.length_nil,Nat.zero_add] at this
  rw[this];simp
 |_::_,[],_,h=>by simp at h
theorem cut_rows (n d:Nat) (rs:List (List Int)):(rs.flatMap rowA).all (AV.keep n d)=true:=by
 rw[List.all_eq_true]
 intro v hv
 rw[List.mem_flatMap] at hv
 obtain⟨r,_,hv⟩:=hv
 simp only[rowA,List.mem_map] at hv
 obtain⟨x,_,rfl⟩:=hv
 cases d <;> rfl
theorem rows_len:∀ {rs:List (List Int)},(∀ r∈rs,r.length=256)→(rs.flatMap rowA).length=rs.length * 256
 | [],_=>rfl
 |r::rs,h=>by
  have:=rows_len (rs:=rs) (fun x hx=>h x (by simp[hx]))
  simp only[List.flatMap_cons,List.length_append,rowA_len,h r (by simp),this,List.length_cons]
  omega
abbrev envI (i:Int):Tr:=(Tr.lf.set 3 (.pv (i64 i))).set 0 (.ptr 3 0)
section
variable (R0 R1:AObj) (S:PV) (nl:Bool) (sets:List Al) (rs:List (List Int)) (ss:List Shp) (i:Nat)
 (h0:cutObj 7 R0=some R0) (h1:cutObj 7 R1=some R1) (g0:cutObj 6 R0=some R0) (g1:cutObj 6 R1=some R1)
 (hi:i < sets.length) (hl:sets.length≤64) (hrl:rs.length≤64) (hrr:∀ r∈rs,r.length=256)
include h0 h1 g0 g1 hi hl hrl hrr
theorem set_round (nl':Bool) (sets':List Al) (row:List Int) (hrow:row.length=256)
 (hrowL:loopA (roundA (evalC (callL t_auto_Build 7) b_auto_builder_walk_l1) (clean 7 [0,3,4,30])) rounds ⟨envW i 0,bld R0 R1 S nl sets (rowsO rs) rs.length [.box (rowA (List.replicate 256 0))]⟩=
  some (.exit 2,⟨(envW i 256).set 31 (.pv (.bool false)),bld R0 R1 S nl' sets' (rowsO rs) rs.length [.box (rowA row)]⟩)):
 roundL (callL t_auto_Build 7) [0,3] b_auto_builder_walk_l0 6 ⟨envI i,bld R0 R1 S nl sets (rowsO rs) rs.length []⟩=
  some (.norm,⟨envI (i+1:Nat),bld R0 R1 S nl' sets' (rowsO (rs++[row])) (rs.length+1) []⟩):=by
 have hlen:(sets.map encA).length=sets.length:=by simp
 have e1:decide ((i:Int) < (sets.length:Int))=true:=dec_t (by omega)
 have t2:=stepWrap (i:=i) (n:=64) (by omega) (by unfold maxLen;omega)
 have p0:((rowA row).length=256)=True:=by rw[rowA_len,hrow];exact eq_self _
 have p1:(256≤(rowA row).length)=True:=by rw[rowA_len,hrow];exact eq_true (Nat.le_refl _)
 have p2:List.take 256 (rowA row)=rowA row:=List.take_of_length_le (by rw[rowA_len,hrow];exact Nat.le_refl _)
 have p3:=allPV_row row
 have p4:((row.map i64).length=256)=True:=by rw[List.length_map,hrow];exact eq_self _
 have p5:(256≤(rowA (List.replicate 256 0)).length)=True:=by rw[rowA_len,List.length_replicate];exact eq_true (Nat.le_refl _)
 have p6:setRow (rowA (List.replicate 256 0)) 0 (rowA row)=rowA row:=by
  have:=setRow_all (rowA row) (rowA (List.replicate 256 0)) [] (by rw[rowA_len,rowA_len,hrow,List.length_replicate])
  rw[List.nil_append,List.nil_append] at this;exact this
 have p7:=rowA_one row
 have p8:List.take 256 (row.map i64)=row.map i64:=List.take_of_length_le (by rw[List.length_map,hrow];exact Nat.le_refl _)
 have p9:(row.map i64).map AV.pv=rowA row:=(rowA_map row).symm
 have q1:(rs.length * 256=(rs.flatMap rowA).length)=True:=by rw[rows_len hrr];exact eq_self _
 have q2:roomOk (rs.length+1) 2048:=by unfold roomOk;omega
 have q3:(rs++[row]).flatMap rowA=rs.flatMap rowA++rowA row:=by rw[List.flatMap_append,List.flatMap_cons,List.flatMap_nil,List.append_nil]
 have q4:(rs++[row]).isEmpty=false:=by cases rs <;> rfl
 have q5:=cut_rows 7 6 rs
 have q6:=cut_rows 6 6 (rs++[row])
 rw[q3] at q6
 simp only[envW,bld,rowsO,Int.cast_ofNat_Int] at hrowL
 unfold bld rowsO
 rw[q3,q4]
 have hz2:=rowZ
 generalize hz:List.replicate 256 (0:Int)=zs at *
 simp (implicitDefEqProofs:=false) only[SP,SA,SQ,sevalprocAttr,-List.reduceReplicate,roundL,roundA,b_auto_builder_walk_l0,hlen,e1,C_loop,clean,cutEnv,cutO_box,cutO_map,cutO_tok,cutO_seq,cut_pv,cut_rowA,AV.cut,deep_eq,h0,h1,g0,g1,envI,hz2,q5]
 rw[hrowL]
 simp (implicitDefEqProofs:=false) only[SP,SA,SQ,sevalprocAttr,-List.reduceReplicate,List.append_nil,hlen,t2,p0,p1,p2,p3,p4,p5,p6,p7,p8,p9,q1,eq_true q2,q5,q6,partE,AV.pvu,AV.pvu1,hz2,elemsA,clean,cutEnv,cutO_box,cutO_map,cutO_tok,cutO_seq,cut_pv,cut_rowA,AV.cut,deep_eq,h0,h1,g0,g1]
end
end Go.AM.B1
namespace Go.AM.B1
open Go.AM
theorem wrap_u32 {n:Nat} (h:n < 4294967296):IntKind.u32.wrap (n:Int)=(n:Int):=by
 have e:IntKind.u32.wrap (n:Int)=(n:Int) % 4294967296:=by
  simp[IntKind.signed,IntKind.wrap,IntKind.bits]
 rw[e];omega
theorem and_bits {a b:Nat} (ha:a < 4294967296) (hb:b < 4294967296):(BitVec.ofInt IntKind.u32.bits (a:Int) &&& BitVec.ofInt IntKind.u32.bits (b:Int)).toNat=a &&& b:=by
 show (BitVec.ofInt 32 (a:Int) &&& BitVec.ofInt 32 (b:Int)).toNat=_
 rw[BitVec.toNat_and,BitVec.ofInt_natCast,BitVec.ofInt_natCast,BitVec.toNat_ofNat,BitVec.toNat_ofNat,Nat.mod_eq_of_lt ha,Nat.mod_eq_of_lt hb]
theorem or_bits {a b:Nat} (ha:a < 4294967296) (hb:b < 4294967296):(BitVec.ofInt IntKind.u32.bits (a:Int) ||| BitVec.ofInt IntKind.u32.bits (b:Int)).toNat=a ||| b:=by
 show (BitVec.ofInt 32 (a:Int) ||| BitVec.ofInt 32 (b:Int)).toNat=_
 rw[BitVec.toNat_or,BitVec.ofInt_natCast,BitVec.ofInt_natCast,BitVec.toNat_ofNat,BitVec.toNat_ofNat,Nat.mod_eq_of_lt ha,Nat.mod_eq_of_lt hb]
theorem bitT_nat {n i:Nat} (hn:n < 4294967296) (hi:i < 32):bitT (n:Int) i=n.testBit i:=by
 have hm:min i IntKind.u32.bits=i:=by show min i 32=i;omega
 have hf:(n:Int).fdiv (2 ^ i)=((n / 2 ^ i:Nat):Int):=by
  rw[show ((2:Int) ^ i)=((2 ^ i:Nat):Int) by push_cast;rfl]
  exact (Int.ofNat_fdiv n (2 ^ i)).symm
 have hle:n / 2 ^ i < 4294967296:=Nat.lt_of_le_of_lt (Nat.div_le_self _ _) hn
 have e:(BitVec.ofInt IntKind.u32.bits ((n / 2 ^ i:Nat):Int) &&& BitVec.ofInt IntKind.u32.bits 1).toNat=n / 2 ^ i % 2:=by
  have:=and_bits hle (show 1 < 4294967296 by decide)
  rw[Nat.and_one_is_mod] at this
  exact this
 unfold bitT
 rw[hm,hf,e,wrap_u32 (by omega),Nat.testBit_eq_decide_div_mod_eq]
 rcases Nat.mod_two_eq_zero_or_one (n / 2 ^ i) with h | h <;> rw[h] <;> rfl
theorem orT_nat {n i:Nat} (hn:n < 4294967296) (hi:i < 32):orT (n:Int) i=((n ||| 2 ^ i:Nat):Int):=by
 have hm:min i IntKind.u32.bits=i:=by show min i 32=i;omega
 have hp:2 ^ i < 4294967296:=by
  have:(2:Nat) ^ i < 2 ^ 32:=Nat.pow_lt_pow_right (by decide) hi
  simpa using this
 have h2:IntKind.u32.wrap (1 * 2 ^ i)=((2 ^ i:Nat):Int):=by
  rw[Int.one_mul,show ((2:Int) ^ i)=((2 ^ i:Nat):Int) by push_cast;rfl,wrap_u32 hp]
 unfold orT
 rw[hm,h2,or_bits hn hp,wrap_u32]
 exact Nat.or_lt_two_pow (n:=32) hn hp
def behN (x:Int) (bits d:Nat):Nat→List Shp→Nat×Bool→Nat×Bool
 |_,[],acc=>acc
 |i,s::r,acc=>behN x bits d (i+1) r (if bits.testBit i&&hasAt s d x then (acc.1 ||| 2 ^ i,acc.2||(s.parts.length==d+1)) else acc)
theorem behN_lt {x:Int} {bits d:Nat}:∀ (ss:List Shp) (i:Nat) (acc:Nat×Bool),i+ss.length≤32→acc.1 < 4294967296→(behN x bits d i ss acc).1 < 4294967296
 | [],i,acc,_,h=>h
 |s::r,i,acc,hl,h=>by
  rw[behN]
  refine behN_lt r (i+1) _ (by simp only[List.length_cons] at hl;omega) ?_
  split
  ·refine Nat.or_lt_two_pow (n:=32) h ?_
   exact Nat.pow_lt_pow_right (by decide) (by simp only[List.length_cons] at hl;omega)
  ·exact h
theorem behS_N {x:Int} {bits d:Nat} (hb:bits < 4294967296):∀ (ss:List Shp) (i:Nat) (acc:Nat×Bool),i+ss.length≤32→acc.1 < 4294967296→
 behS x (bits:Int) d i ss ((acc.1:Int),acc.2)=(((behN x bits d i ss acc).1:Int),(behN x bits d i ss acc).2)
 | [],i,acc,_,h=>rfl
 |s::r,i,acc,hl,h=>by
  have hi:i < 32:=by simp only[List.length_cons] at hl;omega
  rw[behS,behN,bitT_nat hb hi,orT_nat h hi]
  have h2:(acc.1 ||| 2 ^ i) < 4294967296:=Nat.or_lt_two_pow (n:=32) h (Nat.pow_lt_pow_right (by decide) hi)
  have ih:=behS_N (x:=x) (d:=d) hb r (i+1) (if bits.testBit i&&hasAt s d x then (acc.1 ||| 2 ^ i,acc.2||(s.parts.length==d+1)) else acc)
   (by simp only[List.length_cons] at hl;omega) (by split;exact h2;exact h)
  rw[← ih]
  cases bits.testBit i&&hasAt s d x <;> rfl
theorem behN_spec {x:Int} {bits d:Nat}:∀ (ss:List Shp) (i:Nat) (acc:Nat×Bool) (j:Nat),
 (behN x bits d i ss acc).1.testBit j=(acc.1.testBit j||(decide (i≤j)&&(match ss[j - i]? with | some s=>bits.testBit j&&hasAt s d x | none=>false)))
 | [],i,acc,j=>by simp[behN]
 |s::r,i,acc,j=>by
  rw[behN,behN_spec r (i+1)]
  by_cases hij:i=j
  ·subst hij
   simp only[Nat.sub_self,List.getElem?_cons_zero,Nat.le_refl,decide_true,Bool.true_and]
   have:decide (i+1≤i)=false:=by simp
   rw[this,Bool.false_and,Bool.or_false]
   cases h:(bits.testBit i&&hasAt s d x) with
   |true=>simp[Nat.testBit_or,Nat.testBit_two_pow_self]
   |false=>simp
  ·have e1:(if (bits.testBit i&&hasAt s d x)=true then (acc.1 ||| 2 ^ i,acc.2||s.parts.length==d+1) else acc).1.testBit j=acc.1.testBit j:=by
    split
    ·simp only[Nat.testBit_or,Nat.testBit_two_pow_of_ne hij,Bool.or_false]
    ·rfl
   rw[e1]
   by_cases hlt:i+1≤j
   ·have e2:j - i=(j - (i+1))+1:=by omega
    have e3:decide (i≤j)=decide (i+1≤j):=by simp;omega
    rw[e2,e3,List.getElem?_cons_succ]
   ·have e3:decide (i≤j)=false:=by simp;omega
    have e4:decide (i+1≤j)=false:=by simp;omega
    rw[e3,e4];rfl
theorem behN_ends {x:Int} {bits d:Nat}:∀ (ss:List Shp) (i:Nat) (acc:Nat×Bool),
 (behN x bits d i ss acc).2=(acc.2||(ss.zipIdx i).any fun p=>bits.testBit p.2&&hasAt p.1 d x&&(p.1.parts.length==d+1))
 | [],i,acc=>by simp[behN]
 |s::r,i,acc=>by
  rw[behN,behN_ends r (i+1),List.zipIdx_cons,List.any_cons]
  cases h:(bits.testBit i&&hasAt s d x) with
  |true=>simp[Bool.or_assoc]
  |false=>simp
end Go.AM.B1
namespace Go.AM.B1
open Go.AM
def SetOk (ss:List Shp) (k:Nat) (a:Al):Prop:=
 a.1≤k∧∃ b:Nat,a.2=(b:Int)∧b < 4294967296∧∀ i s,ss[i]? =some s→b.testBit i=true→a.1 < s.parts.length
def AllOk (ss:List Shp) (sets:List Al):Prop:=sets.length≤64∧∀ k a,sets[k]? =some a→SetOk ss k a
theorem SetOk.hok {ss:List Shp} {k:Nat} {a:Al} (h:SetOk ss k a) (hl:ss.length≤32):∀ i s,ss[i]? =some s→bitT a.2 i=true→a.1 < s.parts.length:=by
 obtain⟨_,b,e,hb,h⟩:=h
 intro i s hs ht
 have hi:i < 32:=by have:=(List.getElem?_eq_some_iff.1 hs).1;omega
 rw[e,bitT_nat hb hi] at ht
 exact h i s hs ht
theorem beh_ok {ss:List Shp} {k:Nat} {a:Al} {x:Int} (h:SetOk ss k a) (hl:ss.length≤32) (hf:(behS x a.2 a.1 0 ss (0,false)).2=false):
 SetOk ss (k+1) (a.1+1,(behS x a.2 a.1 0 ss (0,false)).1):=by
 obtain⟨hk,b,e,hb,h⟩:=h
 have hN:behS x (b:Int) a.1 0 ss (0,false)=(((behN x b a.1 0 ss (0,false)).1:Int),(behN x b a.1 0 ss (0,false)).2):=behS_N (x:=x) (d:=a.1) hb ss 0 (0,false) (by omega) (by decide)
 rw[e,hN] at hf
 rw[e,hN]
 have hlt:=behN_lt (x:=x) (bits:=b) (d:=a.1) ss 0 (0,false) (by omega) (by decide)
 refine⟨Nat.succ_le_succ hk,_,rfl,hlt,?_⟩
 intro i s hs ht
 rw[behN_spec] at ht
 simp only[Nat.zero_testBit,Nat.zero_le,decide_true,Bool.true_and,Bool.false_or,Nat.sub_zero,hs] at ht
 have hd:=h i s hs (by revert ht;cases b.testBit i <;> simp)
 have hf':(behN x b a.1 0 ss (0,false)).2=false:=hf
 rw[behN_ends,Bool.false_or,List.any_eq_false] at hf'
 have:=hf' (s,i) (by rw[List.mk_mem_zipIdx_iff_getElem?];exact hs)
 show a.1+1 < s.parts.length
 simp only[ht,Bool.true_and] at this
 have h2:¬s.parts.length=a.1+1:=by simpa using this
 omega
theorem stepX_ok {ss:List Shp} {a:Al} {x:Int} {sets:List Al} {r:List Al×Int} {k:Nat} (hs:AllOk ss sets) (ha:sets[k]? =some a) (hl:ss.length≤32) (h:stepX ss a x sets=some r):
 AllOk ss r.1∧∃ t,r.1=sets++t:=by
 have hk:=hs.2 k a ha
 unfold stepX at h
 split at h
 ·injection h with h;subst h;exact⟨hs,[],by simp⟩
 ·split at h
  ·injection h with h;subst h;exact⟨hs,[],by simp⟩
  ·next hf=>
   split at h
   ·injection h with h;subst h;exact⟨hs,[],by simp⟩
   ·split at h
    ·next hlt=>
     injection h with h;subst h
     refine⟨⟨by simp;omega,?_⟩,_,rfl⟩
     intro j b hb
     rcases Nat.lt_or_ge j sets.length with h1 | h1
     ·rw[List.getElem?_append_left h1] at hb;exact hs.2 j b hb
     ·rw[List.getElem?_append_right h1] at hb
      cases hj:j - sets.length with
      |succ n=>rw[hj] at hb;simp at hb
      |zero=>
       rw[hj] at hb
       simp only[List.getElem?_cons_zero,Option.some.injEq] at hb
       subst hb
       have hkl:=(List.getElem?_eq_some_iff.1 ha).1
       obtain⟨g1,g2⟩:=beh_ok hk hl (by simpa using hf)
       exact⟨Nat.le_trans g1 (by omega),g2⟩
    ·cases h
theorem rowS_ok {ss:List Shp} {a:Al} {k:Nat} (hl:ss.length≤32):∀ (xs:List Nat) (r r':List Al×List Int),AllOk ss r.1→r.1[k]? =some a→rowS ss a xs r=some r'→
 AllOk ss r'.1∧(∃ t,r'.1=r.1++t)∧r'.2.length=r.2.length
 | [],r,r',h,_,e=>by injection e with e;subst e;exact⟨h,⟨[],by simp⟩,rfl⟩
 |x::xs,r,r',h,ha,e=>by
  cases hst:stepX ss a x r.1 with
  |none=>rw[rowS_none hst] at e;cases e
  |some p=>
   rw[rowS_some hst] at e
   obtain⟨g1,t,g2⟩:=stepX_ok h ha hl hst
   obtain⟨k1,⟨t',k2⟩,k3⟩:=rowS_ok hl xs (p.1,r.2.set x p.2) r' g1 (by rw[g2,List.getElem?_append_left (List.getElem?_eq_some_iff.1 ha).1];exact ha) e
   exact⟨k1,⟨t++t',by rw[k2,g2,List.append_assoc]⟩,by rw[k3];simp⟩
def row0:List Int:=List.replicate 256 0
theorem row0_len:row0.length=256:=List.length_replicate
def walkS (ss:List Shp):Nat→List Al×List (List Int)→Option (List Al×List (List Int))
 |0,r=>some r
 |k+1,r=>match r.1[r.2.length]? with
  |none=>some r
  |some a=>match rowS ss a (List.range 256) (r.1,row0) with
   |none=>none
   |some p=>walkS ss k (p.1,r.2++[p.2])
theorem walkS_end {ss:List Shp} {k:Nat} {r:List Al×List (List Int)} (h:r.1[r.2.length]? =none):walkS ss k r=some r:=by
 cases k with
 |zero=>rfl
 |succ k=>rw[walkS,h]
theorem walkS_none {ss:List Shp} {k:Nat} {r:List Al×List (List Int)} {a:Al} (h:r.1[r.2.length]? =some a) (h2:rowS ss a (List.range 256) (r.1,row0)=none):walkS ss (k+1) r=none:=by
 rw[walkS,h];simp only[h2]
theorem walkS_some {ss:List Shp} {k:Nat} {r:List Al×List (List Int)} {a:Al} {p:List Al×List Int} (h:r.1[r.2.length]? =some a) (h2:rowS ss a (List.range 256) (r.1,row0)=some p):walkS ss (k+1) r=walkS ss k (p.1,r.2++[p.2]):=by
 rw[walkS,h];simp only[h2]
section
variable (R0 R1:AObj) (S:PV) (nl:Bool) (sets:List Al) (rs:List (List Int)) (ss:List Shp) (i:Nat)
theorem set_stop (h0:cutObj 7 R0=some R0) (h1:cutObj 7 R1=some R1) (hi:i < sets.length) (hl:sets.length≤64)
 (hrowL:retIsH 2 (.pv (.bool false)) R0 (loopA (roundA (evalC (callL t_auto_Build 7) b_auto_builder_walk_l1) (clean 7 [0,3,4,30])) rounds ⟨envW i 0,bld R0 R1 S nl sets (rowsO rs) rs.length [.box (rowA (List.replicate 256 0))]⟩)):
 retIsH 2 (.pv (.bool false)) R0 (roundL (callL t_auto_Build 7) [0,3] b_auto_builder_walk_l0 6 ⟨envI i,bld R0 R1 S nl sets (rowsO rs) rs.length []⟩):=by
 have hlen:(sets.map encA).length=sets.length:=by simp
 have e1:decide ((i:Int) < (sets.length:Int))=true:=dec_t (by omega)
 have q5:=cut_rows 7 6 rs
 obtain⟨t,g1,g2,g3⟩:=retIsH_spec hrowL
 simp only[envW,bld,rowsO,Int.cast_ofNat_Int] at g1
 unfold bld rowsO
 have hz2:=rowZ
 generalize hz:List.replicate 256 (0:Int)=zs at *
 simp (implicitDefEqProofs:=false) only[SP,SA,SQ,sevalprocAttr,-List.reduceReplicate,roundL,roundA,b_auto_builder_walk_l0,hlen,e1,C_loop,clean,cutEnv,cutO_box,cutO_map,cutO_tok,cutO_seq,cut_pv,cut_rowA,AV.cut,deep_eq,h0,h1,envI,hz2,q5]
 rw[g1]
 simp (implicitDefEqProofs:=false) only[SP,SA,SQ,sevalprocAttr,-List.reduceReplicate,retIsH_ret,g2,g3]
theorem set_exit (hi:i=sets.length):
 roundL (callL t_auto_Build 7) [0,3] b_auto_builder_walk_l0 6 ⟨envI i,bld R0 R1 S nl sets (rowsO rs) rs.length []⟩=
  some (.exit 0,⟨(((((((envI i).set 21 (.pv (i64 i))).set 22 (.ptr 3 0)).set 23 (.ptr 3 0)).set 24 (.ptr 3 2)).set 25 (.uq 4 nl 2 (sets.map encA))).set 26 (.pv (i64 sets.length))).set 27 (.pv (.bool false)),bld R0 R1 S nl sets (rowsO rs) rs.length []⟩):=by
 have hlen:(sets.map encA).length=sets.length:=by simp
 have e1:decide ((i:Int) < (sets.length:Int))=false:=dec_f (by omega)
 simp (implicitDefEqProofs:=false) only[SP,SA,SQ,sevalprocAttr,-List.reduceReplicate,roundL,roundA,b_auto_builder_walk_l0,hlen,e1,envI,bld]
theorem rowsO_cut (n:Nat):cutObj n (rowsO rs)=some (rowsO rs):=by
 have:(rs.flatMap rowA).all (AV.keep n deep)=true:=cut_rows n deep rs
 unfold rowsO
 rw[cutO_seq,if_pos this]
theorem walk_loop (h0:cutObj 7 R0=some R0) (h1:cutObj 7 R1=some R1) (g0:cutObj 6 R0=some R0) (g1:cutObj 6 R1=some R1)
 (hS:IsL 2 S (ss.map encShp)) (hw:ss.length≤32) (hsz:∀ s∈ss,∀ l∈s.parts,l.length * 16≤140737488355328) (hok:AllOk ss sets) (h1s:sets.length≤1):
 (∀ r,walkS ss 64 (sets,[])=some r→∃ E nl',loopA (roundA (evalC (callL t_auto_Build 7) b_auto_builder_walk_l0) (clean 6 [0,3])) rounds ⟨envI 0,bld R0 R1 S nl sets (rowsO []) 0 []⟩=
  some (.exit 0,⟨E,bld R0 R1 S nl' r.1 (rowsO r.2) r.2.length []⟩)∧AllOk ss r.1∧r.2.length=r.1.length∧∀ r'∈r.2,r'.length=256)∧
 (walkS ss 64 (sets,[])=none→retIsH 2 (.pv (.bool false)) R0 (loopA (roundA (evalC (callL t_auto_Build 7) b_auto_builder_walk_l0) (clean 6 [0,3])) rounds ⟨envI 0,bld R0 R1 S nl sets (rowsO []) 0 []⟩)):=by
 have key:=loopA_go (g:=roundL (callL t_auto_Build 7) [0,3] b_auto_builder_walk_l0 6)
  (fun i t=>∃ nl' sets' rs',t=⟨envI i,bld R0 R1 S nl' sets' (rowsO rs') rs'.length []⟩∧walkS ss 64 (sets,[])=walkS ss (64 - i) (sets',rs')∧AllOk ss sets'∧rs'.length=i∧i≤sets'.length∧∀ r∈rs',r.length=256)
  (fun ex t=>(∃ r,ex= .exit 0∧walkS ss 64 (sets,[])=some r∧∃ E nl',t=⟨E,bld R0 R1 S nl' r.1 (rowsO r.2) r.2.length []⟩∧AllOk ss r.1∧r.2.length=r.1.length∧∀ r'∈r.2,r'.length=256)∨
   (ex= .ret∧walkS ss 64 (sets,[])=none∧t.env.get 2= .pv (.bool false)∧t.H[0]? =some R0))
  rounds 64 0 ⟨envI (0:Nat),bld R0 R1 S nl sets (rowsO []) 0 []⟩ (by unfold rounds;omega) (by omega) ⟨nl,sets,[],rfl,rfl,hok,rfl,by omega,by simp⟩ ?_ ?_
 ·obtain⟨ex,t,h,_,hq⟩:=key
  have h':loopA (roundA (evalC (callL t_auto_Build 7) b_auto_builder_walk_l0) (clean 6 [0,3])) rounds ⟨envI 0,bld R0 R1 S nl sets (rowsO []) 0 []⟩=some (ex,t):=h
  rw[h']
  rcases hq with⟨r,rfl,hr',E,nl',rfl,q1,q2,q3⟩ | ⟨rfl,hr',hg,hg2⟩
  ·refine⟨fun r2 e=> ?_,fun e=> ?_⟩
   ·rw[hr'] at e;injection e with e;subst e;exact⟨E,nl',rfl,q1,q2,q3⟩
   ·rw[hr'] at e;cases e
  ·refine⟨fun r2 e=> ?_,fun _=> .mk _ hg hg2⟩
   rw[hr'] at e;cases e
 ·rintro i hi t ⟨nl',sets',rs',rfl,hws,hok',hrl,hil,hrr⟩
  by_cases hlt:i < sets'.length
  ·obtain⟨a,ha⟩:∃ a,sets'[i]? =some a:=⟨sets'[i],by simp[hlt]⟩
   have hsa:=hok'.2 i a ha
   have hget:sets'[rs'.length]? =some a:=by rw[hrl];exact ha
   have hrow:=row_loop R0 R1 S (rowsO rs') rs'.length ss h0 h1 (rowsO_cut rs' 7) hS (by unfold maxLen;omega) hsz (nl:=nl') row0_len ha (by have:=hsa.1;omega) hok'.1 (hsa.hok hw)
   have e64:64 - i=(64 - (i+1))+1:=by omega
   cases hr:rowS ss a (List.range 256) (sets',row0) with
   |none=>
    have hst:=set_stop R0 R1 S nl' sets' rs' i h0 h1 hlt hok'.1 (hrow.2 hr)
    obtain⟨t,k1,k2,k3⟩:=retIsH_spec hst
    rw[e64,walkS_none (r:=(sets',rs')) hget hr] at hws
    exact .inr ⟨.ret,t,k1,rfl,.inr ⟨rfl,hws,k2,k3⟩⟩
   |some p=>
    obtain⟨nl2,k1,k2,k3,k4⟩:=hrow.1 p hr
    have hro:=rowS_ok hw _ _ _ hok' ha hr
    rw[e64,walkS_some (r:=(sets',rs')) hget hr] at hws
    have hsr:=set_round R0 R1 S nl' sets' rs' i h0 h1 g0 g1 hlt hok'.1 (by have:=hok'.1;omega) hrr nl2 p.1 p.2 k3 k1
    refine .inl ⟨_,hsr,nl2,p.1,rs'++[p.2],by simp,hws,hro.1,by simp[hrl],?_,?_⟩
    ·obtain⟨t,ht⟩:=k4
     rw[ht];simp;omega
    ·intro r hr
     rcases List.mem_append.1 hr with h | h
     ·exact hrr r h
     ·simp at h;subst h;exact k3
  ·have hie:i=sets'.length:=by omega
   rw[walkS_end (r:=(sets',rs')) (by show sets'[rs'.length]? =none;rw[hrl,hie];simp)] at hws
   exact .inr ⟨.exit 0,_,set_exit R0 R1 S nl' sets' rs' i hie,rfl,.inl ⟨(sets',rs'),rfl,hws,_,nl',rfl,hok',by show rs'.length=sets'.length;omega,hrr⟩⟩
 ·rintro t ⟨nl',sets',rs',rfl,hws,hok',hrl,hil,hrr⟩
  have hie:64=sets'.length:=by have:=hok'.1;omega
  rw[walkS_end (r:=(sets',rs')) (by show sets'[rs'.length]? =none;rw[hrl,hie];simp)] at hws
  exact⟨.exit 0,_,set_exit R0 R1 S nl' sets' rs' 64 hie,rfl,.inl ⟨(sets',rs'),rfl,hws,_,nl',rfl,hok',by show rs'.length=sets'.length;omega,hrr⟩⟩
end
end Go.AM.B1
namespace Go.AM.B1
open Go.AM
abbrev bldF (R0 R1:AObj) (S:PV) (nl nr:Bool) (fr:Nat) (sets:List Al) (C:List Int) (n:Nat) (T:List AObj):List AObj:=
 R0::R1:: .map (encM sets 0):: .box [.pv S,.mp 2,.uq 4 nl 2 (sets.map encA),.own 5 n]:: .tok 2 sets.length nl:: .seq 256 true (rowA C) fr nr::T
abbrev agR (row:List Int):PV:= .agg (row.map i64)
abbrev envL (n:Nat) (row:List Int) (i x:Int):Tr:=
 (((((Tr.lf.set 34 (.pv (i64 x))).set 33 (.pv (agR row))).set 5 (.pv (i64 i))).set 4 (.mp 7)).set 3 (.own 6 n)).set 0 (.ptr 3 0)
section
variable (call:CallF) (R0 R1:AObj) (S:PV) (nl nr nk:Bool) (fr fk:Nat) (sets:List Al) (C:List Int) (n:Nat) (like:List Int) (M:AObj) (row:List Int) (i x:Nat) (to:Int)
theorem least_skip (hx:x < 256) (hto:row[x]? =some to) (h:to < 0):roundA (evalC call b_auto_builder_least_l1) (fun s=>some (tidy [0,3,4,5,33,34] s)) ⟨envL n row i x,bldF R0 R1 S nl nr fr sets C n [.seq 1 false (rowA like) fk nk,M]⟩=
 some (.norm,⟨envL n row i (x+1:Nat),bldF R0 R1 S nl nr fr sets C n [.seq 1 false (rowA like) fk nk,M]⟩):=by
 have e1:decide ((x:Int) < 256)=true:=dec_t (by omega)
 have e2:decide (to≥0)=false:=dec_f (by omega)
 have hq:idxOk (x:Int) 256:=by unfold idxOk;omega
 have t1:((x:Int)).toNat=x:=by simp
 have t2:=stepWrap (i:=x) (n:=256) hx (by unfold maxLen;omega)
 have ht:(row.map i64)[x]? =some (i64 to):=by rw[List.getElem?_map,hto];rfl
 simp (implicitDefEqProofs:=false) only[SP,SA,SQ,sevalprocAttr,-List.reduceReplicate,roundA,b_auto_builder_least_l1,e1,e2,eq_true hq,t1,t2,ht,partP,iaddrA',tidy,keepEnv,envL,bldF]
theorem least_set (hC:C.length=n * 256) (hk:like.length=n) (hfr:fr≤n * 256) (hfk:fk≤n) (hi:i < n) (hx:x < 256) (hto:row[x]? =some to) (h:0≤to) {v:Int} (hv:like[to.toNat]? =some v):roundA (evalC call b_auto_builder_least_l1) (fun s=>some (tidy [0,3,4,5,33,34] s)) ⟨envL n row i x,bldF R0 R1 S nl nr fr sets C n [.seq 1 false (rowA like) fk nk,M]⟩=
 some (.norm,⟨envL n row i (x+1:Nat),bldF R0 R1 S nl nr (n * 256) sets (C.set (i * 256+x) v) n [.seq 1 false (rowA like) fk nk,M]⟩):=by
 have e1:decide ((x:Int) < 256)=true:=dec_t (by omega)
 have e2:decide (to≥0)=true:=dec_t (by omega)
 have hq:idxOk (x:Int) 256:=by unfold idxOk;omega
 have t1:((x:Int)).toNat=x:=by simp
 have t3:((i:Int)).toNat=i:=by simp
 have t2:=stepWrap (i:=x) (n:=256) hx (by unfold maxLen;omega)
 have ht:(row.map i64)[x]? =some (i64 to):=by rw[List.getElem?_map,hto];rfl
 have hv':(rowA like)[to.toNat]? =some (.pv (i64 v)):=by rw[rowA,List.getElem?_map,hv];rfl
 have hvl:=(List.getElem?_eq_some_iff.1 hv).1
 have hq2:idxOk to n:=by unfold idxOk;omega
 have hq3:idxOk (i:Int) n:=by unfold idxOk;omega
 have w1:winOk 1 n fk (rowA like).length:=by rw[rowA_len];unfold winOk;omega
 have w2:winOk 256 n fr (rowA C).length:=by rw[rowA_len];unfold winOk;omega
 have w3:((rowA like).length=n)=True:=by rw[rowA_len];exact eq_true hk
 have w5:(i * 256+x+1≤n * 256)=True:=eq_true (by omega)
 have w4:((rowA C).length=n * 256)=True:=by rw[rowA_len];exact eq_true hC
 simp (implicitDefEqProofs:=false) only[SP,SA,SQ,sevalprocAttr,-List.reduceReplicate,roundA,b_auto_builder_least_l1,e1,e2,eq_true hq,eq_true hq2,eq_true hq3,eq_true w1,eq_true w2,w3,w4,w5,t1,t2,t3,ht,hv',partP,iaddrA',rowA_set,tidy,keepEnv,envL,bldF]
def leastIn (like row:List Int) (i:Nat):List Nat→List Int→List Int
 | [],C=>C
 |x::xs,C=>leastIn like row i xs (match row[x]? with
  |some to=>if 0≤to then C.set (i * 256+x) (like.getD to.toNat 0) else C
  |none=>C)
theorem leastIn_len (like row:List Int) (i:Nat):∀ (xs:List Nat) (C:List Int),(leastIn like row i xs C).length=C.length
 | [],C=>rfl
 |x::xs,C=>by
  rw[leastIn,leastIn_len like row i xs]
  split
  ·split <;> simp
  ·rfl
theorem least_inner (hC:C.length=n * 256) (hk:like.length=n) (hfr:fr=0∨fr=n * 256) (hfk:fk≤n) (hi:i < n) (hrow:row.length=256) (hto:∀ to∈row,to < n):
 ∃ fr',(fr'=0∨fr'=n * 256)∧loopA (roundA (evalC call b_auto_builder_least_l1) (fun s=>some (tidy [0,3,4,5,33,34] s))) rounds ⟨envL n row i 0,bldF R0 R1 S nl nr fr sets C n [.seq 1 false (rowA like) fk nk,M]⟩=
  some (.exit 2,⟨(envL n row i 256).set 35 (.pv (.bool false)),bldF R0 R1 S nl nr fr' sets (leastIn like row i (List.range 256) C) n [.seq 1 false (rowA like) fk nk,M]⟩):=by
 generalize hxs:List.range 256=xs
 have key:=loopA_go (g:=roundA (evalC call b_auto_builder_least_l1) (fun s=>some (tidy [0,3,4,5,33,34] s)))
  (fun x t=>∃ fr' C',(fr'=0∨fr'=n * 256)∧C'.length=n * 256∧t=⟨envL n row i x,bldF R0 R1 S nl nr fr' sets C' n [.seq 1 false (rowA like) fk nk,M]⟩∧leastIn like row i xs C=leastIn like row i (xs.drop x) C')
  (fun ex t=>∃ fr',(fr'=0∨fr'=n * 256)∧ex= .exit 2∧t=⟨(envL n row i 256).set 35 (.pv (.bool false)),bldF R0 R1 S nl nr fr' sets (leastIn like row i xs C) n [.seq 1 false (rowA like) fk nk,M]⟩)
  rounds 256 0 ⟨envL n row i (0:Nat),bldF R0 R1 S nl nr fr sets C n [.seq 1 false (rowA like) fk nk,M]⟩ (by unfold rounds;omega) (by omega) ⟨fr,C,hfr,hC,rfl,rfl⟩ ?_ ?_
 ·obtain⟨ex,t,h,_,fr',q1,rfl,rfl⟩:=key
  exact⟨fr',q1,h⟩
 ·rintro x hx t ⟨fr',C',hf',hC',rfl,hl⟩
  have hd:=range_drop hx
  rw[hxs] at hd
  rw[hd] at hl
  obtain⟨to,ht⟩:∃ to,row[x]? =some to:=⟨row[x],by simp[hrow,hx]⟩
  have hlt:=hto to (List.mem_of_getElem? ht)
  by_cases h0:0≤to
  ·obtain⟨v,hv⟩:∃ v,like[to.toNat]? =some v:=⟨like[to.toNat]'(by omega),by rw[List.getElem?_eq_getElem]⟩
   refine .inl ⟨_,least_set call R0 R1 S nl nr nk fr' fk sets C' n like M row i x to hC' hk (by omega) hfk hi hx ht h0 hv,n * 256,_,.inr rfl,by simpa using hC',rfl,?_⟩
   rw[hl,leastIn,ht]
   have:like.getD to.toNat 0=v:=by simp[hv]
   simp only[if_pos h0,this]
  ·refine .inl ⟨_,least_skip call R0 R1 S nl nr nk fr' fk sets C' n like M row i x to hx ht (by omega),fr',C',hf',hC',rfl,?_⟩
   rw[hl,leastIn,ht]
   simp only[if_neg h0]
 ·rintro t ⟨fr',C',hf',hC',rfl,hl⟩
  rw[List.drop_eq_nil_of_le (by rw[← hxs,List.length_range];exact Nat.le_refl _)] at hl
  refine⟨.exit 2,_,?_,rfl,fr',hf',rfl,rfl⟩
  rw[hl]
  have e1:decide (((256:Nat):Int) < 256)=false:=by decide
  simp (implicitDefEqProofs:=false) only[SP,SA,SQ,sevalprocAttr,-List.reduceReplicate,roundA,b_auto_builder_least_l1,e1,envL,bldF,leastIn]
end
theorem eqKd_rows:∀ (a b:List Int),a.length=b.length→eqCells (List.replicate a.length 1) (a.map i64) (b.map i64)=some (decide (a=b))
 | [],[],_=>rfl
 |x::a,y::b,h=>by
  have ih:=eqKd_rows a b (by simpa using h)
  simp only[List.length_cons,List.replicate_succ,List.map_cons,eqCells,eqCell,if_true,Option.bind_some,ih,Option.map_some,List.cons.injEq,Bool.decide_and]
  congr 2
 | [],_::_,h=>by cases h
 |_::_,[],h=>by cases h
def encR (M:List (List Int×Int)):List (PV×PV):=M.map fun p=>(agR p.1,i64 p.2)
theorem encR_push (M:List (List Int×Int)) (p:List Int×Int):encR (M++[p])=encR M++[(agR p.1,i64 p.2)]:=by simp[encR]
def lookR (a:List Int):List (List Int×Int)→Option Int
 | []=>none
 |p::r=>if a=p.1 then some p.2 else lookR a r
theorem find_row {a:List Int} (ha:a.length=256):∀ (M:List (List Int×Int)) (j:Nat),(∀ p∈M,p.1.length=256)→
 (∀ v,lookR a M=some v→∃ k,findM (.row (List.replicate 256 1)) (agR a) (encR M) j=some (some (k,i64 v)))∧(lookR a M=none→findM (.row (List.replicate 256 1)) (agR a) (encR M) j=some none)
 | [],j,_=>⟨fun v h=>(by cases h),fun _=>rfl⟩
 |p::r,j,hp=>by
  have he:=eqKd_rows a p.1 (by rw[ha,hp p (by simp)])
  rw[ha] at he
  have ih:=find_row ha r (j+1) (fun q hq=>hp q (by simp[hq]))
  have hk:eqKd (.row (List.replicate 256 1)) (agR a) (agR p.1)=some (decide (a=p.1)):=he
  rw[show encR (p::r)=(agR p.1,i64 p.2)::encR r from rfl,findM,hk,Option.bind_some,lookR]
  by_cases h:a=p.1
  ·rw[if_pos h,decide_eq_true h]
   exact⟨fun v e=>(by injection e with e;subst e;exact⟨j,rfl⟩),fun e=>(by cases e)⟩
  ·rw[if_neg h,decide_eq_false h]
   exact ih
theorem row_isSome {a:List Int} (ha:a.length=256):(eqKd (.row (List.replicate 256 1)) (agR a) (agR a)).isSome=true:=by
 have he:=eqKd_rows a a rfl
 rw[ha] at he
 show (eqCells _ _ _).isSome=true
 rw[he];rfl
def rowAt (C:List Int) (i:Nat):List Int:=(C.drop (i * 256)).take 256
theorem rowAt_len {C:List Int} {n i:Nat} (hC:C.length=n * 256) (hi:i < n):(rowAt C i).length=256:=by
 unfold rowAt;rw[List.length_take,List.length_drop,hC];omega
theorem rowAt_pv (C:List Int) (i:Nat):allPV (List.take 256 (List.drop (i * 256) (rowA C)))=some ((rowAt C i).map i64):=by
 have:List.take 256 (List.drop (i * 256) (rowA C))=rowA (rowAt C i):=by unfold rowAt rowA;rw[List.map_take,List.map_drop]
 rw[this,allPV_row]
structure LSt where
 C:List Int
 like:List Int
 M:List (List Int×Int)
def leastOne (i:Nat) (s:LSt):LSt:=
 let C:=leastIn s.like (rowAt s.C i) i (List.range 256) s.C
 match lookR (rowAt C i) s.M with
 |some v=>⟨C,s.like.set i v,s.M⟩
 |none=>⟨C,s.like.set i i,s.M++[(rowAt C i,(i:Int))]⟩
def leastGo:Nat→LSt→LSt
 |0,s=>s
 |i+1,s=>leastGo i (leastOne i s)
theorem leastOne_some {i:Nat} {s:LSt} {v:Int} (h:lookR (rowAt (leastIn s.like (rowAt s.C i) i (List.range 256) s.C) i) s.M=some v):leastOne i s=⟨leastIn s.like (rowAt s.C i) i (List.range 256) s.C,s.like.set i v,s.M⟩:=by
 simp only[leastOne,h]
theorem leastOne_none {i:Nat} {s:LSt} (h:lookR (rowAt (leastIn s.like (rowAt s.C i) i (List.range 256) s.C) i) s.M=none):
 leastOne i s=⟨leastIn s.like (rowAt s.C i) i (List.range 256) s.C,s.like.set i i,s.M++[(rowAt (leastIn s.like (rowAt s.C i) i (List.range 256) s.C) i,(i:Int))]⟩:=by
 simp only[leastOne,h]
abbrev envM (n:Nat) (i:Int):Tr:=(((Tr.lf.set 5 (.pv (i64 i))).set 4 (.mp 7)).set 3 (.own 6 n)).set 0 (.ptr 3 0)
section
variable (call:CallF) (R0 R1:AObj) (S:PV) (nl nr nk:Bool) (fr fk:Nat) (sets:List Al) (n:Nat) (s:LSt) (i:Nat)
theorem least_round (hC:s.C.length=n * 256) (hk:s.like.length=n) (hfr:fr=0∨fr=n * 256) (hfk:fk≤n) (hi:i < n) (hn:n≤64) (hto:∀ to∈rowAt s.C i,to < n) (hM:∀ p∈s.M,p.1.length=256):
 ∃ fr',(fr'=0∨fr'=n * 256)∧roundA (evalC call b_auto_builder_least_l0) (fun s=>some (tidy [0,3,4,5] s)) ⟨envM n i,bldF R0 R1 S nl nr fr sets s.C n [.seq 1 false (rowA s.like) fk nk,.map (encR s.M)]⟩=
  some (.norm,⟨envM n ((i:Int) - 1),bldF R0 R1 S nl nr fr' sets (leastOne i s).C n [.seq 1 false (rowA (leastOne i s).like) n nk,.map (encR (leastOne i s).M)]⟩):=by
 obtain⟨fr',hf',hin⟩:=least_inner call R0 R1 S nl nr nk fr fk sets s.C n s.like (.map (encR s.M)) (rowAt s.C i) i hC hk hfr hfk hi (rowAt_len hC hi) hto
 refine⟨fr',hf',?_⟩
 have hC2:(leastIn s.like (rowAt s.C i) i (List.range 256) s.C).length=n * 256:=by rw[leastIn_len,hC]
 have hrl:=rowAt_len hC2 hi
 have hfd:=find_row hrl s.M 0 hM
 have his:=row_isSome hrl
 have p1:=rowAt_pv s.C i
 have p2:=rowAt_pv (leastIn s.like (rowAt s.C i) i (List.range 256) s.C) i
 have e1:decide ((i:Int)≥0)=true:=dec_t (by omega)
 have hq3:idxOk (i:Int) n:=by unfold idxOk;omega
 have t3:((i:Int)).toNat=i:=by simp
 have t2:IntKind.i64.wrap ((i:Int) - 1)=(i:Int) - 1:=wrap_int (by omega)
 have w2:winOk 256 n fr (rowA s.C).length:=by rw[rowA_len];unfold winOk;omega
 have w4:((rowA s.C).length=n * 256)=True:=by rw[rowA_len];exact eq_true hC
 have w6:(i * 256+256≤(rowA s.C).length)=True:=by rw[rowA_len];exact eq_true (by omega)
 have hl1:=@leastOne_some i s
 have hl2:=@leastOne_none i s
 generalize leastIn s.like (rowAt s.C i) i (List.range 256) s.C=C2 at *
 have w12:winOk 256 n fr' (rowA C2).length:=by rw[rowA_len];unfold winOk;omega
 have w14:((rowA C2).length=n * 256)=True:=by rw[rowA_len];exact eq_true hC2
 have w16:(i * 256+256≤(rowA C2).length)=True:=by rw[rowA_len];exact eq_true (by omega)
 have w1:winOk 1 n fk (rowA s.like).length:=by rw[rowA_len];unfold winOk;omega
 have w3:((rowA s.like).length=n)=True:=by rw[rowA_len];exact eq_true hk
 have w5:(i+1≤n)=True:=eq_true (by omega)
 generalize hz:List.replicate 256 1=ks at *
 have hin':loopA (roundA (evalC call b_auto_builder_least_l1) (fun s=>some (tidy [0,3,4,5,33,34] s))) rounds ⟨envL n (rowAt s.C i) i 0,bldF R0 R1 S nl nr fr sets s.C n [.seq 1 false (rowA s.like) fk nk,.map (encR s.M)]⟩=_:=hin
 simp only[envL,bldF,tidy,keepEnv] at hin'
 cases hlk:lookR (rowAt C2 i) s.M with
 |some v=>
  obtain⟨k,hk2⟩:=hfd.1 v hlk
  rw[hl1 hlk]
  simp (implicitDefEqProofs:=false) only[SP,SA,SQ,sevalprocAttr,-List.reduceReplicate,roundA,b_auto_builder_least_l0,e1,eq_true hq3,t2,t3,eq_true w2,w4,w6,p1,iaddrA',C_loopG,tidy,keepEnv,envM,bldF,hz]
  rw[hin']
  simp (implicitDefEqProofs:=false) only[SP,SA,SQ,sevalprocAttr,-List.reduceReplicate,eq_true hq3,t2,t3,eq_true w12,w14,w16,eq_true w1,w3,w5,p2,iaddrA',eq_true his,hk2,rowA_set,tidy,keepEnv,envM,bldF]
 |none=>
  have hk2:=hfd.2 hlk
  rw[hl2 hlk]
  simp (implicitDefEqProofs:=false) only[SP,SA,SQ,sevalprocAttr,-List.reduceReplicate,roundA,b_auto_builder_least_l0,e1,eq_true hq3,t2,t3,eq_true w2,w4,w6,p1,iaddrA',C_loopG,tidy,keepEnv,envM,bldF,hz]
  rw[hin']
  simp (implicitDefEqProofs:=false) only[SP,SA,SQ,sevalprocAttr,-List.reduceReplicate,eq_true hq3,t2,t3,eq_true w12,w14,w16,eq_true w1,w3,w5,p2,iaddrA',eq_true his,hk2,rowA_set,tidy,keepEnv,envM,bldF,encR_push]
end
end Go.AM.B1
namespace Go.AM.B1
open Go.AM
structure LOk (n:Nat) (s:LSt):Prop where
 hC:s.C.length=n * 256
 hk:s.like.length=n
 cC:∀ c∈s.C,c < n
 ck:∀ c∈s.like,c < n
 cM:∀ p∈s.M,p.1.length=256∧p.2 < n
theorem leastIn_lt {like row:List Int} {i:Nat} {n:Int} (hn:0 < n) (hk:∀ c∈like,c < n):∀ (xs:List Nat) (C:List Int),(∀ c∈C,c < n)→∀ c∈leastIn like row i xs C,c < n
 | [],C,h=>h
 |x::xs,C,h=>by
  rw[leastIn]
  refine leastIn_lt hn hk xs _ ?_
  split
  ·split
   ·intro c hc
    rcases List.mem_or_eq_of_mem_set hc with h1 | h1
    ·exact h c h1
    ·subst h1
     next to _ _=>
     rcases Nat.lt_or_ge to.toNat like.length with h2 | h2
     ·rw[List.getD_eq_getElem?_getD,List.getElem?_eq_getElem h2];exact hk _ (List.getElem_mem h2)
     ·rw[List.getD_eq_getElem?_getD,List.getElem?_eq_none h2];exact hn
   ·exact h
  ·exact h
theorem lookR_mem {a:List Int}:∀ {M:List (List Int×Int)} {v:Int},lookR a M=some v→∃ p∈M,p.1=a∧p.2=v
 |p::r,v,h=>by
  rw[lookR] at h
  split at h
  ·next h1=>injection h with h;exact⟨p,by simp,h1.symm,h⟩
  ·obtain⟨q,hq,e⟩:=lookR_mem h
   exact⟨q,by simp[hq],e⟩
theorem leastOne_ok {n i:Nat} {s:LSt} (hi:i < n) (h:LOk n s):LOk n (leastOne i s):=by
 have hC2:(leastIn s.like (rowAt s.C i) i (List.range 256) s.C).length=n * 256:=by rw[leastIn_len,h.hC]
 have hlt:=leastIn_lt (i:=i) (row:=rowAt s.C i) (n:=(n:Int)) (by omega) h.ck (List.range 256) s.C h.cC
 have hl1:=@leastOne_some i s
 have hl2:=@leastOne_none i s
 generalize leastIn s.like (rowAt s.C i) i (List.range 256) s.C=C2 at *
 cases hl:lookR (rowAt C2 i) s.M with
 |some v=>
  obtain⟨p,hp,_,hv⟩:=lookR_mem hl
  have:=(h.cM p hp).2
  rw[hl1 hl]
  refine⟨hC2,by simp[h.hk],hlt,?_,h.cM⟩
  intro c hc
  rcases List.mem_or_eq_of_mem_set hc with h1 | h1
  ·exact h.ck c h1
  ·omega
 |none=>
  rw[hl2 hl]
  refine⟨hC2,by simp[h.hk],hlt,?_,?_⟩
  ·intro c hc
   rcases List.mem_or_eq_of_mem_set hc with h1 | h1
   ·exact h.ck c h1
   ·omega
  ·intro p hp
   rcases List.mem_append.1 hp with h1 | h1
   ·exact h.cM p h1
   ·simp at h1;subst h1;exact⟨rowAt_len hC2 hi,by simp;omega⟩
theorem leastGo_ok {n:Nat}:∀ (k:Nat) (s:LSt),k≤n→LOk n s→LOk n (leastGo k s)
 |0,s,_,h=>h
 |k+1,s,hk,h=>leastGo_ok k _ (by omega) (leastOne_ok (by omega) h)
def leastS (n:Nat) (C:List Int):LSt:=leastGo n ⟨C,List.replicate n 0,[]⟩
section
variable (call:CallF) (R0 R1:AObj) (S:PV) (nl nr nk:Bool) (sets:List Al) (C:List Int) (n:Nat)
theorem least_loop (s0:LSt) (hn:n≤64) (h0:0 < n) (hok:LOk n s0):
 ∃ fr fk,(fr=0∨fr=n * 256)∧loopA (roundA (evalC call b_auto_builder_least_l0) (fun s=>some (tidy [0,3,4,5] s))) rounds ⟨envM n ((n:Int) - 1),bldF R0 R1 S nl nr 0 sets s0.C n [.seq 1 false (rowA s0.like) 0 nk,.map (encR s0.M)]⟩=
  some (.exit 0,⟨((envM n (-1)).set 23 (.pv (i64 (-1)))).set 24 (.pv (.bool false)),bldF R0 R1 S nl nr fr sets (leastGo n s0).C n [.seq 1 false (rowA (leastGo n s0).like) fk nk,.map (encR (leastGo n s0).M)]⟩)∧fk≤n:=by
 have key:=loopA_go (g:=roundA (evalC call b_auto_builder_least_l0) (fun s=>some (tidy [0,3,4,5] s)))
  (fun j t=>∃ fr fk s,(fr=0∨fr=n * 256)∧fk≤n∧LOk n s∧t=⟨envM n ((n:Int) - 1 - j),bldF R0 R1 S nl nr fr sets s.C n [.seq 1 false (rowA s.like) fk nk,.map (encR s.M)]⟩∧leastGo n s0=leastGo (n - j) s)
  (fun ex t=>∃ fr fk,(fr=0∨fr=n * 256)∧fk≤n∧ex= .exit 0∧t=⟨((envM n (-1)).set 23 (.pv (i64 (-1)))).set 24 (.pv (.bool false)),bldF R0 R1 S nl nr fr sets (leastGo n s0).C n [.seq 1 false (rowA (leastGo n s0).like) fk nk,.map (encR (leastGo n s0).M)]⟩)
  rounds n 0 ⟨envM n ((n:Int) - 1 - (0:Nat)),bldF R0 R1 S nl nr 0 sets s0.C n [.seq 1 false (rowA s0.like) 0 nk,.map (encR s0.M)]⟩ (by unfold rounds;omega) (by omega) ⟨0,0,s0,.inl rfl,by omega,hok,rfl,rfl⟩ ?_ ?_
 ·obtain⟨ex,t,h,_,fr,fk,q1,q2,rfl,rfl⟩:=key
  rw[show ((n:Int) - 1 - (0:Nat))=(n:Int) - 1 by omega] at h
  exact⟨fr,fk,q1,h,q2⟩
 ·rintro j hj t ⟨fr,fk,s,hf,hfk,hs,rfl,hl⟩
  obtain⟨i,hi⟩:∃ i,n - j=i+1:=⟨n - j - 1,by omega⟩
  rw[hi,leastGo] at hl
  obtain⟨fr',hf',hr⟩:=least_round call R0 R1 S nl nr nk fr fk sets n s i hs.hC hs.hk hf hfk (by omega) hn
   (fun to h=>hs.cC to (List.mem_of_mem_drop (List.mem_of_mem_take h))) (fun p hp=>(hs.cM p hp).1)
  rw[show ((n:Int) - 1 - (j:Int))=(i:Int) by omega]
  refine .inl ⟨_,hr,fr',n,leastOne i s,hf',by omega,leastOne_ok (by omega) hs,?_,?_⟩
  ·rw[show ((n:Int) - 1 - ((j+1:Nat):Int))=(i:Int) - 1 by omega]
  ·rw[hl,show n - (j+1)=i by omega]
 ·rintro t ⟨fr,fk,s,hf,hfk,hs,rfl,hl⟩
  rw[Nat.sub_self,leastGo] at hl
  rw[show ((n:Int) - 1 - (n:Int))= -1 by omega]
  refine⟨.exit 0,_,?_,rfl,fr,fk,hf,hfk,rfl,rfl⟩
  rw[hl]
  have e1:decide ((-1:Int)≥0)=false:=by decide
  simp (implicitDefEqProofs:=false) only[SP,SA,SQ,sevalprocAttr,-List.reduceReplicate,roundA,b_auto_builder_least_l0,e1,envM,bldF]
theorem repZ_zero (n:Nat):repZ [PV.int .i64 0] n=rowA (List.replicate n 0):=by
 induction n with
 |zero=>rfl
 |succ n ih=>rw[repZ,ih];rfl
theorem least_run (hn:n≤64) (h0:0 < n) (hs:sets.length=n) (hC:C.length=n * 256) (cC:∀ c∈C,c < n):
 ∃ fr fk v,(fr=0∨fr=n * 256)∧runF call b_auto_builder_least [.ptr 3 0] (bldF R0 R1 S nl nr 0 sets C n [])=
  some (v,bldF R0 R1 S nl nr fr sets (leastS n C).C n [.seq 1 false (rowA (leastS n C).like) fk false,.map (encR (leastS n C).M)]):=by
 obtain⟨fr,fk,hf,hl,hfk⟩:=least_loop call R0 R1 S nl nr false sets n ⟨C,List.replicate n 0,[]⟩ hn h0
  ⟨hC,by simp,cC,by intro c hc;rw[List.eq_of_mem_replicate hc];omega,by simp⟩
 refine⟨fr,fk,.own 6 n,hf,?_⟩
 have hlen:(sets.map encA).length=n:=by rw[List.length_map,hs]
 have r0:repZ [PV.int .i64 0] n=rowA (List.replicate n 0):=repZ_zero n
 have t1:((n:Int)).toNat=n:=by simp
 have t2:IntKind.i64.wrap ((n:Int) - 1)=(n:Int) - 1:=wrap_int (by omega)
 have e1:(0≤(n:Int))=True:=by simp
 have e2:roomOk n 8:=by unfold roomOk;omega
 have e3:((n:Int)≤(n:Int))=True:=by simp
 unfold leastS
 generalize leastGo n ⟨C,List.replicate n 0,[]⟩=g at *
 generalize List.replicate n (0:Int)=zs at *
 simp only[tidy,keepEnv,envM,bldF,encR,List.map_nil] at hl
 simp (implicitDefEqProofs:=false) only[SP,SA,SQ,sevalprocAttr,-List.reduceReplicate,b_auto_builder_least,hlen,r0,t1,t2,e1,eq_true e2,e3,C_loopG,tidy,keepEnv,bldF]
 rw[hl]
 simp (implicitDefEqProofs:=false) only[SP,SA,SQ,sevalprocAttr,-List.reduceReplicate,bldF,encR]
end
end Go.AM.B1
