/- What functions of the program compute. -/
import Derived.Test.YtdglpnpkgngcdaaGreatM6
import Derived.Test.YtdglpnpkgngcdaaGreatM4
set_option linter.unusedVariables false
set_option linter.unusedSimpArgs false
namespace Go.AM.B1
open Go.AM Go.AM.So
def rankGo:List (List (Int×Int))→List Int→Int→Option Int
 |l::r,x::b,k=>if (rankR x 0 l).2=true then rankGo r b (k+(rankR x 0 l).1 * prodS r) else none
 |_,_,k=>some k
def rankS (s:Shp) (b:List Int):Option Int:=if b.length=s.parts.length then rankGo s.parts b 0 else none
theorem rankR_bound {top x:Int}:∀ {l:List (Int×Int)} {last n:Int},validR top last l=true→(rankR x n l).2=true→n≤(rankR x n l).1∧(rankR x n l).1 < n+sizeR 0 l
 | [],last,n,_,h=>by simp[rankR] at h
 |p::l,last,n,hv,h=>by
  obtain⟨h1,h2,h3,h4,h5⟩:=validR_cons hv
  have hs:=(sizeR_bound h5).1
  rw[rankR] at h ⊢
  rw[sizeR,sizeR_acc]
  by_cases c1:x < p.1
  ·rw[if_pos c1] at h;cases h
  ·rw[if_neg c1] at h ⊢
   by_cases c2:x≤p.2
   ·rw[if_pos c2];simp only;omega
   ·rw[if_neg c2] at h ⊢
    have:=rankR_bound h5 h;omega
theorem setR_ok {l:List (Int×Int)} (h:validR 255 (-2) l=true):setR l=l:=by unfold setR;rw[if_pos h]
theorem lit_drop (H:List AObj) {sz k:Nat} {es:List PV} (hz:0 < sz) (hk:k≤es.length):sliceA H sz (.pv (.lit sz es)) (some (k:Int)) none=some (.pv (.lit sz (es.drop k))):=by
 simp only[sliceA,Option.getD_some,Option.getD_none]
 rw[if_pos ⟨hz,trivial,by omega,by omega,by omega⟩]
 simp
theorem rankGo_nil (b:List Int) (k:Int):rankGo [] b k=some k:=by cases b <;> rfl
abbrev envRk (row:List PV) (B S:PV) (n i k:Int):Tr:=(((((Tr.lf.set 26 (.pv (i64 i))).set 25 (.pv (i64 n))).set 24 (.pv S)).set 6 (.pv (i64 k))).set 2 (.pv (.rp row 0))).set 1 (.pv B)
structure HeldB (B:PV) (bs:List Int):Prop where
 is:IsL 1 B (bs.map (PV.int .u8))
 rng:∀ b∈bs,0≤b∧b≤255
theorem HeldB.lenA {B:PV} {bs:List Int} (h:HeldB B bs) (H:List AObj):Go.AM.lenA H 0 (.pv B)=some bs.length:=by
 rw[h.is.len];simp
theorem HeldB.one {B:PV} {bs:List Int} (h:HeldB B bs):(AV.pv B).one=true:=by
 rcases h.is with⟨h,_⟩ | h <;> rw[h] <;> rfl
theorem HeldB.iaddr {B:PV} {bs:List Int} (h:HeldB B bs) {i:Nat} (hi:i < bs.length) (H:List AObj):iaddrA' H 1 (.pv B) (i:Int)=some (.pv (.rp [.int .u8 bs[i]] 0)):=by
 have hl:=h.is.lit (i:=i) (by simpa using hi)
 rw[hl]
 simp only[iaddrA']
 rw[if_pos (by unfold idxOk;simp;omega),Int.toNat_natCast,List.getElem?_map,List.getElem?_eq_getElem hi];rfl
theorem shape_rank_run {e:PV} {s:Shp} {P:PV} {ps:List PV} (h:HeldShp e s P ps) {B:PV} {bs:List Int} (hB:HeldB B bs) (hok:ShpOk s):
 (∀ k,rankS s bs=some k→F_shape_Rank [e,B]=some (.tup [i64 k,.bool true]))∧(rankS s bs=none→F_shape_Rank [e,B]=some (.tup [i64 0,.bool false])):=by
 obtain⟨b1,hb1,hb1'⟩:=shape_valid_run h
 have:=hb1'.2 hok
 subst this
 have hst:=steps_run h hok
 obtain⟨hP1,hP2⟩:=h.Pone
 have heq:=h.eq
 subst heq
 have hP:=h.parts
 have lP:=hP.lenA
 have lB:=hB.lenA
 have hB1:=hB.one
 have h8:=hok.hi
 have hpr:=hok.prod.2
 have r2:∀ H (x y:PV),loadA H true 2 (.pv (.rp [x,y] 0))=some (.pv (.agg [x,y])):=fun H x y=>rfl
 have r0:∀ H (x y:PV),loadA H false 1 (.pv (.rp [x,y] 0))=some (.pv x):=fun H x y=>rfl
 have r1:∀ H (x:PV),loadA H false 1 (.pv (.rp [x] 0))=some (.pv x):=fun H x=>rfl
 have q0:∀ H (x y:PV),place H 0 (.pv (.rp [x,y] 0))=some (.pv (.rp [x,y] 0)):=fun H x y=>rfl
 by_cases hlen:bs.length=s.parts.length
 ·have hrk:rankS s bs=rankGo s.parts bs 0:=by unfold rankS;rw[if_pos hlen]
  have hsl:∀ H,sliceA H 1 (.pv (.lit 1 ((stepsR s.parts).map i64))) (some 1) none=some (.pv (.lit 1 (((stepsR s.parts).map i64).drop 1))):=fun H=>lit_drop H (k:=1) (by omega) (by simp[stepsR])
  have hdl:(((stepsR s.parts).map i64).drop 1).length=s.parts.length:=by simp[stepsR]
  have hde:∀ i,i < s.parts.length→(((stepsR s.parts).map i64).drop 1)[i]? =some (i64 (prodS (s.parts.drop (i+1)))):=by
   intro i hi
   rw[List.getElem?_drop,List.getElem?_map,stepsR,List.getElem?_map,List.getElem?_range (by omega),Nat.add_comm 1 i];rfl
  generalize ((stepsR s.parts).map i64).drop 1=S at *
  have hloop:wpO (fun r=>∃ E,(r=(.ret,⟨E,[]⟩)∧E.get 4= .pv (i64 0)∧E.get 5= .pv (.bool false)∧rankGo s.parts bs 0=none)∨(∃ k,r=(.exit 0,⟨E,[]⟩)∧E.get 6= .pv (i64 k)∧rankGo s.parts bs 0=some k))
   (loopA (roundA (evalC (callL (fun _=>none) 8) b_shape_Rank_l0) (clean 0 [1,2,6,24,25,26])) rounds ⟨envRk [P,i64 s.first] B (.lit 1 S) s.parts.length 0 0,[]⟩):=by
   refine wpO_mono (loopN_wp (g:=roundA (evalC (callL (fun _=>none) 8) b_shape_Rank_l0) (clean 0 [1,2,6,24,25,26]))
    (fun i t=>∃ k,t=⟨envRk [P,i64 s.first] B (.lit 1 S) s.parts.length i k,[]⟩∧0≤k∧k+prodS (s.parts.drop i)≤prodS s.parts∧rankGo s.parts bs 0=rankGo (s.parts.drop i) (bs.drop i) k)
    s.parts.length (by unfold rounds;omega) _ ⟨0,rfl,by omega,by simp,rfl⟩ ?_ ?_) (fun r h=>h.2)
   ·rintro i t hi ⟨k,rfl,hk0,hk1,hs⟩
    obtain⟨v,hv,hpt,_⟩:=hP.iaddr hi []
    have a2:=hP.iaddrU hv
    have hpo:=hok.parts s.parts[i] (List.getElem_mem hi)
    have hib:i < bs.length:=by omega
    have a3:=hB.iaddr hib
    have hbr:=hB.rng bs[i] (List.getElem_mem hib)
    have hd:s.parts.drop i=s.parts[i]::s.parts.drop (i+1):=List.drop_eq_getElem_cons hi
    have hdb:bs.drop i=bs[i]::bs.drop (i+1):=List.drop_eq_getElem_cons hib
    have hrr:=spans_rank_run v s.parts[i] hpt.is hpt.sz bs[i]
    rw[setR_ok hpo.2] at hrr
    have hrb:=rankR_bound (x:=bs[i]) (n:=0) hpo.2
    rw[hd,prodS] at hk1
    rw[hd,hdb,rankGo] at hs
    have hle:=prodS_drop hok.parts (i+1)
    have hpos:=prodS_pos (ls:=s.parts.drop (i+1)) fun x hx=>hok.parts x (List.mem_of_mem_drop hx)
    have hsz:=partOk_size hpo
    generalize s.parts[i]=l at *
    generalize bs[i]=x at *
    have e1:decide ((i:Int) < (s.parts.length:Int))=true:=dec_t (by omega)
    have t2:=stepWrap hi (by unfold maxLen;omega)
    have t3:IntKind.i64.wrap x=x:=wrap_int (by omega)
    have a1:∀ H,iaddrA' H 1 (.pv (.lit 1 S)) (i:Int)=some (.pv (.rp [i64 (prodS (s.parts.drop (i+1)))] 0)):=fun H=>by
     simp only[iaddrA']
     rw[if_pos (by unfold idxOk;simp;omega),Int.toNat_natCast,hde i hi];rfl
    obtain⟨⟨d,is⟩,hrk2⟩:∃ r,r=rankR x 0 l:=⟨_,rfl⟩
    rw[← hrk2] at hrr hs hrb
    generalize hQ:LN _ _ i=Q
    cases is with
    |false=>
     simp only[Bool.false_eq_true,if_false] at hs
     simp (implicitDefEqProofs:=false) only[SP,SA,WP,sevalprocAttr,-List.reduceReplicate,b_shape_Rank_l0,e1,a1,a2,a3,r0,r1,q0,t3,hrr,envRk]
     subst hQ
     exact⟨_,.inl ⟨rfl,by simp[Tr.get_set],by simp[Tr.get_set],hs⟩⟩
    |true=>
     simp only[if_true] at hs
     have hb2:=hrb rfl
     simp only at hb2
     have hmul:d * prodS (s.parts.drop (i+1))+prodS (s.parts.drop (i+1))≤prodS (s.parts.drop (i+1)) * sizeR 0 l:=by
      have h1:(d+1) * prodS (s.parts.drop (i+1))≤sizeR 0 l * prodS (s.parts.drop (i+1)):=Int.mul_le_mul_of_nonneg_right (by omega) (by omega)
      rw[Int.add_mul,Int.one_mul,Int.mul_comm (sizeR 0 l)] at h1
      exact h1
     have hm0:0≤d * prodS (s.parts.drop (i+1)):=Int.mul_nonneg (by omega) (by omega)
     have t4:IntKind.i64.wrap (d * prodS (s.parts.drop (i+1)))=d * prodS (s.parts.drop (i+1)):=wrap_int (by omega)
     have t5:IntKind.i64.wrap (k+d * prodS (s.parts.drop (i+1)))=k+d * prodS (s.parts.drop (i+1)):=wrap_int (by omega)
     simp (implicitDefEqProofs:=false) only[SP,SA,WP,sevalprocAttr,-List.reduceReplicate,b_shape_Rank_l0,e1,t2,t4,t5,a1,a2,a3,r0,r1,q0,t3,hrr,clean,cutEnv,AV.cut,deep_eq',envRk]
     subst hQ
     exact⟨_,rfl,by omega,by omega,hs⟩
   ·rintro t ⟨k,rfl,hk0,hk1,hs⟩
    rw[List.drop_length,rankGo_nil] at hs
    have e1:decide ((s.parts.length:Int) < (s.parts.length:Int))=false:=dec_f (by omega)
    generalize hQ:(fun r:Ex×St=>r.1.stop=true∧_)=Q
    simp (implicitDefEqProofs:=false) only[SP,SA,WP,sevalprocAttr,-List.reduceReplicate,b_shape_Rank_l0,e1,envRk]
    subst hQ
    exact⟨rfl,_,.inr ⟨k,rfl,by simp[Tr.get_set],hs⟩⟩
  obtain⟨r,h1,E,h2⟩:=wpO_spec hloop
  have h1':loopA (roundA (evalC (callL (fun _=>none) 8) b_shape_Rank_l0) (clean 0 [1,2,6,24,25,26])) rounds ⟨(((((Tr.lf.set 26 (.pv (.int .i64 0))).set 25 (.pv (i64 s.parts.length))).set 24 (.pv (.lit 1 S))).set 6 (.pv (.int .i64 0))).set 2 (.pv (.rp [P,i64 s.first] 0))).set 1 (.pv B),[]⟩=some r:=h1
  have d1:((bs.length:Int) != (s.parts.length:Int))=false:=by rw[hlen];simp
  rw[hrk]
  rcases h2 with⟨rfl,h4,h5,hn⟩ | ⟨k,rfl,h6,hk⟩
  ·refine⟨fun k hk=>by (rw[hn] at hk;cases hk),fun _=> ?_⟩
   simp (implicitDefEqProofs:=false) only[F_shape_Rank,SP,SA,WP,sevalprocAttr,-List.reduceReplicate,b_shape_Rank,C_loop,hP1,hB1,r2,r0,q0,hb1,lP,lB,d1,hst,hsl,hdl,clean,cutEnv,AV.cut,deep_eq',h1',h4,h5]
  ·refine⟨fun k' hk'=> ?_,fun hn=>by (rw[hk] at hn;cases hn)⟩
   obtain rfl:k=k':=Option.some.inj (hk.symm.trans hk')
   simp (implicitDefEqProofs:=false) only[F_shape_Rank,SP,SA,WP,sevalprocAttr,-List.reduceReplicate,b_shape_Rank,C_loop,hP1,hB1,r2,r0,q0,hb1,lP,lB,d1,hst,hsl,hdl,clean,cutEnv,AV.cut,deep_eq',h1',h6]
 ·have d1:((bs.length:Int) != (s.parts.length:Int))=true:=by
   have:(bs.length:Int)≠(s.parts.length:Int):=by omega
   simp[this]
  have hrk:rankS s bs=none:=by unfold rankS;rw[if_neg hlen]
  refine⟨fun k hk=>by (rw[hrk] at hk;cases hk),fun _=> ?_⟩
  simp (implicitDefEqProofs:=false) only[F_shape_Rank,SP,SA,WP,sevalprocAttr,-List.reduceReplicate,b_shape_Rank,C_loop,hP1,hB1,r2,r0,q0,hb1,lP,lB,d1]
end Go.AM.B1
namespace Go.AM.B1
open Go.AM Go.AM.So
abbrev u8s (bs:List Int):List PV:=bs.map (PV.int .u8)
abbrev envCf (row:List PV) (P:PV) (n i:Int) (tk:Nat) (es:List PV):Tr:=((((Tr.lf.set 19 (.pv (i64 i))).set 18 (.pv (i64 n))).set 17 (.pv P)).set 5 (.uq tk false 1 es)).set 2 (.pv (.rp row 0))
theorem first_run {e:PV} {s:Shp} {P:PV} {ps:List PV} (h:HeldShp e s P ps) {B:PV} {bs:List Int} (hB:HeldB B bs) (hok:ShpOk s) (hlen:bs.length≤s.parts.length):
 ∃ k,F_clash_first [e,B]=some (i64 k):=by
 have hh:=h
 obtain⟨hP1,hP2⟩:=h.Pone
 have heq:=h.eq
 subst heq
 have hP:=h.parts
 have lP:=hP.lenA
 have lB:=hB.lenA
 have hB1:=hB.one
 have h8:=hok.hi
 have hPl:P= .lit 1 ps:=hP.is.lit (i:=0) (by rw[hP.len];exact hok.lo)
 have r2:∀ H (x y:PV),loadA H true 2 (.pv (.rp [x,y] 0))=some (.pv (.agg [x,y])):=fun H x y=>rfl
 have r0:∀ H (x y:PV),loadA H false 1 (.pv (.rp [x,y] 0))=some (.pv x):=fun H x y=>rfl
 have r01:∀ H (x y:PV),loadA H false 1 (.pv (.rp [x,y] 1))=some (.pv y):=fun H x y=>rfl
 have r1:∀ H (x:PV),loadA H false 1 (.pv (.rp [x] 0))=some (.pv x):=fun H x=>rfl
 have q0:∀ H (x y:PV),place H 0 (.pv (.rp [x,y] 0))=some (.pv (.rp [x,y] 0)):=fun H x y=>rfl
 have q1:∀ H (x y:PV),place H 1 (.pv (.rp [x,y] 0))=some (.pv (.rp [x,y] 1)):=fun H x y=>rfl
 have hsl:∀ H,sliceA H 1 (.pv P) (some (bs.length:Int)) none=some (.pv (.lit 1 (ps.drop bs.length))):=fun H=>by rw[hPl];exact lit_drop H (by omega) (by rw[hP.len];exact hlen)
 have hdl:(ps.drop bs.length).length=s.parts.length - bs.length:=by rw[List.length_drop,hP.len]
 have hap0:appendA [.tok 1 0 false] false .uq 1 false 1 (.uq 0 false 1 []) (.pv B)=some (.uq 0 false 1 (u8s bs),[.tok 1 bs.length false]):=by
  have he:elemsP 1 (.pv B)=some (u8s bs):=by
   rcases hB.is with⟨rfl,hbs⟩ | rfl
   ·have:u8s bs=[]:=hbs
    rw[this];rfl
   ·simp[elemsP,u8s]
  simp only[appendA,Bool.false_eq_true,if_false,List.getElem?_cons_zero,he,Option.bind_some,List.length_nil,Nat.zero_add,List.nil_append]
  rw[if_pos ⟨trivial,trivial,trivial,by unfold roomOk;simp[u8s];omega⟩]
  simp[u8s]
 have hloop:wpO (fun r=>∃ E H bs',r=(.exit 0,⟨E,H⟩)∧E.get 5= .uq 0 false 1 (u8s bs')∧E.get 2= .pv (.rp [P,i64 s.first] 0)∧∀ b∈bs',0≤b∧b≤255)
  (loopA (roundA (evalC (callL (fun _=>none) 8) b_clash_first_l0) (clean 1 [2,5,17,18,19])) rounds ⟨envCf [P,i64 s.first] (.lit 1 (ps.drop bs.length)) ((s.parts.length - bs.length:Nat):Int) 0 0 (u8s bs),[.tok 1 bs.length false]⟩):=by
  refine wpO_mono (loopN_wp (g:=roundA (evalC (callL (fun _=>none) 8) b_clash_first_l0) (clean 1 [2,5,17,18,19]))
   (fun i t=>∃ bs',t=⟨envCf [P,i64 s.first] (.lit 1 (ps.drop bs.length)) ((s.parts.length - bs.length:Nat):Int) i 0 (u8s bs'),[.tok 1 bs'.length false]⟩∧bs'.length=bs.length+i∧∀ b∈bs',0≤b∧b≤255)
   (s.parts.length - bs.length) (by unfold rounds;omega) _ ⟨bs,rfl,rfl,hB.rng⟩ ?_ ?_) (fun r h=>h.2)
  ·rintro i t hi ⟨bs',rfl,hl',hr'⟩
   obtain⟨v,hv,hPl',hpt⟩:=hP.get (i:=bs.length+i) (by omega)
   have hpo:=hok.parts _ (List.getElem_mem (show bs.length+i < s.parts.length by omega))
   generalize s.parts[bs.length+i]=l at *
   obtain⟨p0,l',rfl⟩:=List.exists_cons_of_ne_nil hpo.1
   have hvl:v= .lit 2 (prs (p0::l')):=hpt.is.lit (i:=0) (by simp)
   have hcl:v.cells=[v]:=by rw[hvl];rfl
   have e1:decide ((i:Int) < ((s.parts.length - bs.length:Nat):Int))=true:=dec_t (by omega)
   have t2:=stepWrap hi (by unfold maxLen;omega)
   have a1:∀ H,iaddrA' H 1 (.pv (.lit 1 (ps.drop bs.length))) (i:Int)=some (.pv (.rp [v] 0)):=fun H=>by
    simp only[iaddrA']
    rw[if_pos (by have:=hP.len;unfold idxOk;simp;omega),Int.toNat_natCast,List.getElem?_drop,hv]
    simp[hcl]
   have i0:∀ H,iaddrA' H 2 (.pv v) 0=some (.pv (.rp [i64 p0.1,i64 p0.2] 0)):=fun H=>by
    rw[hvl];exact lit_iaddr H (i:=0) (l:=p0::l') (by simp)
   have hb0:=validR_all hpo.2 p0 (by simp)
   have t3:IntKind.u8.wrap p0.1=p0.1:=wrap_u8 (by omega)
   have hap:=byte_append (A:=[.tok 1 bs'.length false]) (id:=0) (n:=bs'.length) (h:= .uq) (nl:=false) (bytes:=1) (es:=u8s bs') rfl (by simp[u8s]) (by unfold roomOk;omega) (.int .u8 p0.1)
   rw[List.set_cons_zero] at hap
   have hbm:u8s (bs'++[p0.1])=u8s bs'++[.int .u8 p0.1]:=by simp[u8s]
   clear hvl
   generalize hQ:LN _ _ i=Q
   simp (implicitDefEqProofs:=false) only[SP,WP,setRow,sevalprocAttr,-List.reduceReplicate,b_clash_first_l0,e1,t2,t3,a1,i0,r0,r1,q0,hap,clean,cutEnv,AV.cut,cutObj,deep_eq',envCf]
   subst hQ
   refine⟨bs'++[p0.1],by rw[hbm];simp,by simp;omega,?_⟩
   intro b hb
   rcases List.mem_append.1 hb with h | h
   ·exact hr' b h
   ·simp at h;subst h;omega
  ·rintro t ⟨bs',rfl,hl',hr'⟩
   have e1:decide (((s.parts.length - bs.length:Nat):Int) < ((s.parts.length - bs.length:Nat):Int))=false:=dec_f (by omega)
   generalize hQ:(fun r:Ex×St=>r.1.stop=true∧_)=Q
   simp (implicitDefEqProofs:=false) only[SP,SA,WP,sevalprocAttr,-List.reduceReplicate,b_clash_first_l0,e1,envCf]
   subst hQ
   exact⟨rfl,_,_,bs',rfl,by simp[Tr.get_set],by simp[Tr.get_set],hr'⟩
 obtain⟨r,h1,E,H,bs',rfl,hE5,hE2,hr'⟩:=wpO_spec hloop
 have h1':loopA (roundA (evalC (callL (fun _=>none) 8) b_clash_first_l0) (clean 1 [2,5,17,18,19])) rounds ⟨((((Tr.lf.set 19 (.pv (.int .i64 0))).set 18 (.pv (i64 ((s.parts.length - bs.length:Nat):Int)))).set 17 (.pv (.lit 1 (ps.drop bs.length)))).set 5 (.uq 0 false 1 (u8s bs))).set 2 (.pv (.rp [P,i64 s.first] 0)),[.tok 1 bs.length false]⟩=_:=h1
 have hBl:HeldB (.lit 1 (u8s bs')) bs':=⟨.inr rfl,hr'⟩
 have hrk:=shape_rank_run hh hBl hok
 have hrk':∃ k b,F_shape_Rank [.agg [P,i64 s.first],.lit 1 (u8s bs')]=some (.tup [i64 k,.bool b]):=by
  cases hk:rankS s bs' with
  |some k=>exact⟨k,true,hrk.1 k hk⟩
  |none=>exact⟨0,false,hrk.2 hk⟩
 obtain⟨k,b,hk⟩:=hrk'
 refine⟨IntKind.i64.wrap (s.first+k),?_⟩
 clear hPl
 generalize u8s bs=ub at *
 generalize u8s bs'=ub' at *
 simp (implicitDefEqProofs:=false) only[F_clash_first,SP,WP,setRow,sevalprocAttr,-List.reduceReplicate,b_clash_first,C_loop,hP1,hB1,r2,r0,r01,q0,q1,lP,lB,hap0,hsl,hdl,clean,cutEnv,AV.cut,cutObj,deep_eq',h1',hE5,hE2,hk]
theorem HeldSch.iaddr {S:PV} {ss:List Shp} {es:List PV} (hS:HeldSch S ss es) {i:Nat} (hi:i < ss.length):∃ P ps,HeldShp (.agg [P,i64 ss[i].first]) ss[i] P ps∧∀ H,iaddrA' H 2 (.pv S) (i:Int)=some (.pv (.rp [P,i64 ss[i].first] 0)):=by
 obtain⟨e,P,ps,he,hSl,hsh⟩:=hS.get hi
 have heq:=hsh.eq
 subst heq
 refine⟨P,ps,hsh,fun H=> ?_⟩
 have hq:i < es.length:=by rw[hS.len];exact hi
 rw[hSl]
 simp only[iaddrA']
 rw[if_pos (by unfold idxOk;simp;omega),Int.toNat_natCast,he];rfl
def meetsB (p q:Shp):Bool:=(commonR p.parts q.parts p.parts.length 0).isSome
abbrev vbox (y:Bool) (a b:Int):AObj:= .box [.pv (.bool y),.pv (i64 a),.pv (i64 b)]
abbrev shbox (P:PV) (f:Int):AObj:= .box [.pv P,.pv (i64 f)]
abbrev envS1 (S:PV) (cix:Nat) (n i j:Int):Tr:=
 (((((((((((Tr.lf.set 29 (.pv (i64 j))).set 28 (.pv (i64 n))).set 27 (.pv S)).set 21 (.pv (i64 i))).set 20 (.pv (i64 n))).set 19 (.pv S)).set 8 (.ptr 4 0)).set 7 (.pv (i64 i))).set 6 (.ptr 3 0)).set 4 (.ptr 2 0)).set 2 (.pv (.rp [S] 0))).set 1 (.clo cix [.ptr 0 0])
abbrev envS0 (S:PV) (cix:Nat) (n i:Int):Tr:=
 ((((((Tr.lf.set 21 (.pv (i64 i))).set 20 (.pv (i64 n))).set 19 (.pv S)).set 6 (.ptr 3 0)).set 4 (.ptr 2 0)).set 2 (.pv (.rp [S] 0))).set 1 (.clo cix [.ptr 0 0])
structure Asks (call:CallF) (cix:Nat) (S:PV) (n:Nat) (ask:Nat→Nat→Bool):Prop where
 run:∀ (i j:Nat) (H:List AObj),i < n→j < n→H[0]? =some (.box [.pv S])→call cix [.pv (i64 i),.pv (i64 j),.ptr 0 0] H=some (.pv (.bool (ask i j)),H)
section
variable {call:CallF} {cix:Nat} {S:PV} {ss:List Shp} {es:List PV} {ask:Nat→Nat→Bool} (hS:HeldSch S ss es) (hok:SchOk ss) (hA:Asks call cix S ss.length ask)
 (hask:∀ i j,(hi:i < ss.length)→(hj:j < ss.length)→ask i j=true→ss[i].parts.length≤ss[j].parts.length)
include hS hok hA hask
theorem search_inner {i:Nat} (hi:i < ss.length) {P:PV} (hP:∃ ps,HeldShp (.agg [P,i64 ss[i].first]) ss[i] P ps) (X:AObj) (hX:∀ n,cutObj n X=some X):
 wpO (fun r=>(∃ E,r=(.exit 2,⟨E,[.box [.pv S],X,vbox false 0 0,vbox true 0 0,shbox P ss[i].first]⟩)∧E.get 1= .clo cix [.ptr 0 0]∧E.get 2= .pv (.rp [S] 0)∧E.get 4= .ptr 2 0∧E.get 6= .ptr 3 0∧E.get 19= .pv S∧E.get 20= .pv (i64 ss.length)∧E.get 21= .pv (i64 i)∧∀ j,(hj:j < ss.length)→ask i j=true→meetsB ss[i] ss[j]=false)∨
  (∃ E a b T,r=(.exit 0,⟨E,[.box [.pv S],X,vbox false 0 0,vbox false a b]++T⟩)∧E.get 4= .ptr 2 0∧E.get 6= .ptr 3 0∧∃ j,∃ hj:j < ss.length,ask i j=true∧meetsB ss[i] ss[j]=true))
  (loopA (roundA (evalC call b_clash_search_l1) (clean 5 [1,2,4,6,7,8,19,20,21,27,28,29])) rounds ⟨envS1 S cix ss.length i 0,[.box [.pv S],X,vbox false 0 0,vbox true 0 0,shbox P ss[i].first]⟩):=by
 obtain⟨ps,hPs⟩:=hP
 have h32:=hok.len
 have okp:=hok.shp _ (List.getElem_mem hi)
 have hSone:(AV.pv S).one=true:=by rcases hS.is with⟨h,_⟩ | h <;> rw[h] <;> rfl
 obtain⟨hP1,hP2⟩:=hPs.Pone
 have lP:=hPs.parts.lenA
 have hask':=fun j hj=>hask i j hi hj
 have hAi:=fun j H (hj:j < ss.length)=>hA.run i j H hi hj
 generalize hp:ss[i]=p at *
 refine wpO_mono (loopN_wp (g:=roundA (evalC call b_clash_search_l1) (clean 5 [1,2,4,6,7,8,19,20,21,27,28,29]))
  (fun j t=>t=⟨envS1 S cix ss.length i j,[.box [.pv S],X,vbox false 0 0,vbox true 0 0,shbox P p.first]⟩∧∀ j',j' < j→(hj:j' < ss.length)→ask i j'=true→meetsB p ss[j']=false)
  ss.length (by unfold rounds;omega) _ ⟨rfl,fun j' h=>by omega⟩ ?_ ?_) (fun r h=>h.2)
 ·rintro j t hj ⟨rfl,hno⟩
  obtain⟨Q,qs,hQs,a1⟩:=hS.iaddr hj
  have okq:=hok.shp _ (List.getElem_mem hj)
  have hcm:=common_run hPs hQs okp okq (n:=p.parts.length) (Nat.le_refl _)
  have hno':∀ (b:Bool),(ask i j=true→meetsB p ss[j]=false)→∀ j',j' < j+1→(hj:j' < ss.length)→ask i j'=true→meetsB p ss[j']=false:=by
   intro _ h j' hj' hjj ha
   rcases Nat.lt_or_ge j' j with h1 | h1
   ·exact hno j' h1 hjj ha
   ·have:j'=j:=by omega
    subst this;exact h ha
  have hle:=hask' j hj
  obtain⟨hQ1,hQ2⟩:=hQs.Pone
  have lQ:=hQs.parts.lenA
  have hmt:meetsB p ss[j]=(commonR p.parts ss[j].parts p.parts.length 0).isSome:=rfl
  rw[hmt] at hno'
  have hex:ask i j=true→(commonR p.parts ss[j].parts p.parts.length 0).isSome=true→∃ j,∃ hj:j < ss.length,ask i j=true∧meetsB p ss[j]=true:=fun h1 h2=>⟨j,hj,h1,h2⟩
  have hfirst:∀ {B:PV} {bs:List Int},HeldB B bs→bs.length≤ss[j].parts.length→∃ k,F_clash_first [.agg [Q,i64 ss[j].first],B]=some (i64 k):=fun h1 h2=>first_run hQs h1 okq h2
  generalize ss[j]=q at *
  have e1:decide ((j:Int) < (ss.length:Int))=true:=dec_t (by omega)
  have t2:=stepWrap hj (by unfold maxLen;omega)
  have a2:∀ H,loadA H true 2 (.pv (.rp [Q,i64 q.first] 0))=some (.pv (.agg [Q,i64 q.first])):=fun H=>rfl
  have s1:storeA [.box [.pv S],X,vbox false 0 0,vbox true 0 0,shbox P p.first,.box [.pv .nils,.pv (i64 0)]] 2 (.ptr 5 0) (.pv (.agg [Q,i64 q.first]))=some [.box [.pv S],X,vbox false 0 0,vbox true 0 0,shbox P p.first,shbox Q q.first]:=
   box2_store _ _ _ _ hQ1 rfl [.box [.pv S],X,vbox false 0 0,vbox true 0 0,shbox P p.first] _ rfl
  have hak:=hAi j [.box [.pv S],X,vbox false 0 0,vbox true 0 0,shbox P p.first,shbox Q q.first] hj rfl
  have l1:loadA [.box [.pv S],X,vbox false 0 0,vbox true 0 0,shbox P p.first,shbox Q q.first] true 2 (.ptr 4 0)=some (.pv (.agg [P,i64 p.first])):=rfl
  have l2:loadA [.box [.pv S],X,vbox false 0 0,vbox true 0 0,shbox P p.first,shbox Q q.first] true 2 (.ptr 5 0)=some (.pv (.agg [Q,i64 q.first])):=rfl
  have l3:loadA [.box [.pv S],X,vbox false 0 0,vbox true 0 0,shbox P p.first,shbox Q q.first] false 1 (.ptr 4 0)=some (.pv P):=rfl
  have p3:place [.box [.pv S],X,vbox false 0 0,vbox true 0 0,shbox P p.first,shbox Q q.first] 0 (.ptr 4 0)=some (.ptr 4 0):=rfl
  have s2:∀ a b:Int,storeA [.box [.pv S],X,vbox false 0 0,vbox true 0 0,shbox P p.first,shbox Q q.first] 3 (.ptr 3 0) (.pv (.agg [.bool false,i64 a,i64 b]))=some [.box [.pv S],X,vbox false 0 0,vbox false a b,shbox P p.first,shbox Q q.first]:=fun a b=>rfl
  have hcl5:mapO (cutObj 5) [.box [.pv S],X,vbox false 0 0,vbox true 0 0,shbox P p.first]=some [.box [.pv S],X,vbox false 0 0,vbox true 0 0,shbox P p.first]:=by
   refine mapO_id ?_
   intro o ho
   simp only[List.mem_cons,List.not_mem_nil,or_false] at ho
   rcases ho with rfl | rfl | rfl | rfl | rfl <;> first | exact hX _ | simp[cutObj,mapO,cut_pv]
  have htk:∀ o:AObj,[.box [.pv S],X,vbox false 0 0,vbox true 0 0,shbox P p.first,o].take 5=[.box [.pv S],X,vbox false 0 0,vbox true 0 0,shbox P p.first]:=fun o=>rfl
  have c3:(3 < 5)=True:=by simp
  have c2:(2 < 5)=True:=by simp
  have c4:(4 < 5)=True:=by simp
  have c0:(0 < 5)=True:=by simp
  have hd:deep=6:=rfl
  generalize hQQ:LN _ _ j=QQ
  cases hak':ask i j with
  |false=>
   rw[hak'] at hak
   simp (implicitDefEqProofs:=false) only[SP,WP,setRow,sevalprocAttr,-List.reduceReplicate,b_clash_search_l1,e1,t2,a1,a2,s1,hak,hcl5,htk,c0,c2,c3,c4,clean,cutEnv,AV.cut,deep_eq',envS1]
   subst hQQ
   exact⟨rfl,hno' true (fun h=>by rw[hak'] at h;cases h)⟩
  |true=>
   rw[hak'] at hak
   have hcm:=hcm (hle hak')
   cases hc:commonR p.parts q.parts p.parts.length 0 with
   |none=>
    have h1:=hcm.1 hc
    simp (implicitDefEqProofs:=false) only[SP,WP,setRow,sevalprocAttr,-List.reduceReplicate,b_clash_search_l1,e1,t2,a1,a2,s1,hak,l1,l2,l3,p3,lP,h1,hcl5,htk,c0,c2,c3,c4,clean,cutEnv,AV.cut,deep_eq',envS1]
    subst hQQ
    exact⟨rfl,hno' true (fun _=>by rw[hc];rfl)⟩
   |some bs=>
    obtain⟨v,h1,hv,hbl,hbr⟩:=hcm.2 bs hc
    have hB:HeldB v bs:=⟨hv,hbr⟩
    obtain⟨k1,hk1⟩:=first_run hPs hB okp (by omega)
    obtain⟨k2,hk2⟩:=hfirst hB (by have:=hle hak';omega)
    simp (implicitDefEqProofs:=false) only[SP,WP,setRow,sevalprocAttr,-List.reduceReplicate,b_clash_search_l1,e1,a1,a2,s1,hak,l1,l2,l3,p3,lP,h1,hk1,hk2,s2,envS1]
    subst hQQ
    exact .inr ⟨_,k1,k2,[shbox P p.first,shbox Q q.first],rfl,by simp[Tr.get_set],by simp[Tr.get_set],hex hak' (by rw[hc];rfl)⟩
 ·rintro t ⟨rfl,hno⟩
  have e1:decide ((ss.length:Int) < (ss.length:Int))=false:=dec_f (by omega)
  generalize hQ:(fun r:Ex×St=>r.1.stop=true∧_)=Q
  simp (implicitDefEqProofs:=false) only[SP,SA,WP,sevalprocAttr,-List.reduceReplicate,b_clash_search_l1,e1,envS1]
  subst hQ
  exact⟨rfl,.inl ⟨_,rfl,by simp[Tr.get_set],by simp[Tr.get_set],by simp[Tr.get_set],by simp[Tr.get_set],by simp[Tr.get_set],by simp[Tr.get_set],by simp[Tr.get_set],fun j hj ha=>hno j hj hj ha⟩⟩
theorem search_outer (X:AObj) (hX:∀ n,cutObj n X=some X):
 wpO (fun r=>(∃ E,r=(.exit 0,⟨E,[.box [.pv S],X,vbox false 0 0,vbox true 0 0]⟩)∧E.get 4= .ptr 2 0∧E.get 6= .ptr 3 0∧∀ i j,(hi:i < ss.length)→(hj:j < ss.length)→ask i j=true→meetsB ss[i] ss[j]=false)∨
  (∃ E a b T,r=(.exit 0,⟨E,[.box [.pv S],X,vbox false 0 0,vbox false a b]++T⟩)∧E.get 4= .ptr 2 0∧E.get 6= .ptr 3 0∧∃ i j,∃ hi:i < ss.length,∃ hj:j < ss.length,ask i j=true∧meetsB ss[i] ss[j]=true))
  (loopA (roundA (evalC call b_clash_search_l0) (clean 4 [1,2,4,6,19,20,21])) rounds ⟨envS0 S cix ss.length 0,[.box [.pv S],X,vbox false 0 0,vbox true 0 0]⟩):=by
 have h32:=hok.len
 have lS:=hS.lenA
 refine wpO_mono (loopN_wp (g:=roundA (evalC call b_clash_search_l0) (clean 4 [1,2,4,6,19,20,21]))
  (fun i t=>t=⟨envS0 S cix ss.length i,[.box [.pv S],X,vbox false 0 0,vbox true 0 0]⟩∧∀ i' j,i' < i→(hi:i' < ss.length)→(hj:j < ss.length)→ask i' j=true→meetsB ss[i'] ss[j]=false)
  ss.length (by unfold rounds;omega) _ ⟨rfl,fun i' j h=>by omega⟩ ?_ ?_) (fun r h=>h.2)
 ·rintro i t hi ⟨rfl,hno⟩
  obtain⟨P,ps,hPs,a1⟩:=hS.iaddr hi
  have hin:=search_inner hS hok hA hask hi ⟨ps,hPs⟩ X hX
  obtain⟨hP1,hP2⟩:=hPs.Pone
  have hno':(∀ j,(hj:j < ss.length)→ask i j=true→meetsB ss[i] ss[j]=false)→∀ i' j,i' < i+1→(hi:i' < ss.length)→(hj:j < ss.length)→ask i' j=true→meetsB ss[i'] ss[j]=false:=by
   intro h i' j hi' hii hj ha
   rcases Nat.lt_or_ge i' i with h1 | h1
   ·exact hno i' j h1 hii hj ha
   ·have:i'=i:=by omega
    subst this;exact h j hj ha
  have hex:(∃ j,∃ hj:j < ss.length,ask i j=true∧meetsB ss[i] ss[j]=true)→∃ i j,∃ hi:i < ss.length,∃ hj:j < ss.length,ask i j=true∧meetsB ss[i] ss[j]=true:=fun ⟨j,hj,h⟩=>⟨i,j,hi,hj,h⟩
  generalize ss[i]=p at *
  have e1:decide ((i:Int) < (ss.length:Int))=true:=dec_t (by omega)
  have t2:=stepWrap hi (by unfold maxLen;omega)
  have a2:∀ H,loadA H true 2 (.pv (.rp [P,i64 p.first] 0))=some (.pv (.agg [P,i64 p.first])):=fun H=>rfl
  have s1:storeA [.box [.pv S],X,vbox false 0 0,vbox true 0 0,.box [.pv .nils,.pv (i64 0)]] 2 (.ptr 4 0) (.pv (.agg [P,i64 p.first]))=some [.box [.pv S],X,vbox false 0 0,vbox true 0 0,shbox P p.first]:=
   box2_store _ _ _ _ hP1 rfl [.box [.pv S],X,vbox false 0 0,vbox true 0 0] _ rfl
  have hcl4:∀ T,mapO (cutObj 4) (([.box [.pv S],X,vbox false 0 0,vbox true 0 0]++T).take 4)=some [.box [.pv S],X,vbox false 0 0,vbox true 0 0]:=fun T=>by
   refine mapO_id ?_
   intro o ho
   simp only[List.cons_append,List.nil_append,List.take_succ_cons,List.take_zero,List.mem_cons,List.not_mem_nil,or_false] at ho
   rcases ho with rfl | rfl | rfl | rfl <;> first | exact hX _ | simp[cutObj,mapO,cut_pv]
  have hcl4':∀ o,mapO (cutObj 4) ([.box [.pv S],X,vbox false 0 0,vbox true 0 0,o].take 4)=some [.box [.pv S],X,vbox false 0 0,vbox true 0 0]:=fun o=>hcl4 [o]
  have hcl5:mapO (cutObj 5) [.box [.pv S],X,vbox false 0 0,vbox true 0 0,shbox P p.first]=some [.box [.pv S],X,vbox false 0 0,vbox true 0 0,shbox P p.first]:=by
   refine mapO_id ?_
   intro o ho
   simp only[List.mem_cons,List.not_mem_nil,or_false] at ho
   rcases ho with rfl | rfl | rfl | rfl | rfl <;> first | exact hX _ | simp[cutObj,mapO,cut_pv]
  have htk5:([.box [.pv S],X,vbox false 0 0,vbox true 0 0,shbox P p.first]:List AObj).take 5=[.box [.pv S],X,vbox false 0 0,vbox true 0 0,shbox P p.first]:=rfl
  have r0:∀ H (x:PV),loadA H false 1 (.pv (.rp [x] 0))=some (.pv x):=fun H x=>rfl
  have q0:∀ H (x:PV),place H 0 (.pv (.rp [x] 0))=some (.pv (.rp [x] 0)):=fun H x=>rfl
  have c3:(3 < 5)=True:=by simp
  have c2:(2 < 5)=True:=by simp
  have c4:(4 < 5)=True:=by simp
  have c0:(0 < 5)=True:=by simp
  have d3:(3 < 4)=True:=by simp
  have d2:(2 < 4)=True:=by simp
  have d0:(0 < 4)=True:=by simp
  generalize hQQ:LN _ _ i=QQ
  simp (implicitDefEqProofs:=false) only[SP,WP,setRow,sevalprocAttr,-List.reduceReplicate,b_clash_search_l0,C_loop,e1,a1,a2,s1,r0,q0,lS,hcl5,htk5,c0,c2,c3,c4,clean,cutEnv,AV.cut,deep_eq',envS0]
  refine wpO_mono hin ?_
  rintro r (⟨E,rfl,g1,g2,g4,g6,g19,g20,g21,hn⟩ | ⟨E,a,b,T,rfl,g4,g6,hy⟩)
  ·simp (implicitDefEqProofs:=false) only[SP,WP,setRow,sevalprocAttr,-List.reduceReplicate,g1,g2,g4,g6,g19,g20,g21,t2,hX 4,d0,d2,d3,clean,cutEnv,AV.cut,deep_eq']
   subst hQQ
   exact⟨rfl,hno' hn⟩
  ·simp (implicitDefEqProofs:=false) only[SP,WP,setRow,sevalprocAttr,-List.reduceReplicate]
   subst hQQ
   exact .inr ⟨E,a,b,T,rfl,g4,g6,hex hy⟩
 ·rintro t ⟨rfl,hno⟩
  have e1:decide ((ss.length:Int) < (ss.length:Int))=false:=dec_f (by omega)
  generalize hQ:(fun r:Ex×St=>r.1.stop=true∧_)=Q
  simp (implicitDefEqProofs:=false) only[SP,SA,WP,sevalprocAttr,-List.reduceReplicate,b_clash_search_l0,e1,envS0]
  subst hQ
  exact⟨rfl,.inl ⟨_,rfl,by simp[Tr.get_set],by simp[Tr.get_set],fun i j hi hj ha=>hno i j hi hi hj ha⟩⟩
theorem search_run (X:AObj) (hX:∀ n,cutObj n X=some X):
 ∃ y a b T,runF call b_clash_search [.pv (.agg [S]),.clo cix [.ptr 0 0]] [.box [.pv S],X]=some (.pv (.tup [.agg [.bool y,i64 a,i64 b],i64 0]),[.box [.pv S],X]++T)∧
  (y=true↔∀ i j,(hi:i < ss.length)→(hj:j < ss.length)→ask i j=true→meetsB ss[i] ss[j]=false):=by
 have lS:=hS.lenA
 have hSone:(AV.pv S).one=true:=by rcases hS.is with⟨h,_⟩ | h <;> rw[h] <;> rfl
 obtain⟨b,hv,hvb⟩:=scheme_valid_run hS
 have:=hvb.2 hok
 subst this
 have hout:=search_outer hS hok hA hask X hX
 have s1:storeA [.box [.pv S],X,vbox false 0 0,.box [.pv (.bool false),.pv (i64 0),.pv (i64 0)]] 3 (.ptr 3 0) (.pv (.agg [.bool true,i64 0,i64 0]))=some [.box [.pv S],X,vbox false 0 0,vbox true 0 0]:=rfl
 have hcl4:mapO (cutObj 4) [.box [.pv S],X,vbox false 0 0,vbox true 0 0]=some [.box [.pv S],X,vbox false 0 0,vbox true 0 0]:=by
  refine mapO_id ?_
  intro o ho
  simp only[List.mem_cons,List.not_mem_nil,or_false] at ho
  rcases ho with rfl | rfl | rfl | rfl <;> first | exact hX _ | simp[cutObj,mapO,cut_pv]
 have htk4:([.box [.pv S],X,vbox false 0 0,vbox true 0 0]:List AObj).take 4=[.box [.pv S],X,vbox false 0 0,vbox true 0 0]:=rfl
 have r1:∀ H (x:PV),loadA H true 1 (.pv (.rp [x] 0))=some (.pv (.agg [x])):=fun H x=>rfl
 have r0:∀ H (x:PV),loadA H false 1 (.pv (.rp [x] 0))=some (.pv x):=fun H x=>rfl
 have q0:∀ H (x:PV),place H 0 (.pv (.rp [x] 0))=some (.pv (.rp [x] 0)):=fun H x=>rfl
 have d3:(3 < 4)=True:=by simp
 have d2:(2 < 4)=True:=by simp
 have d0:(0 < 4)=True:=by simp
 have key:wpO (fun r=>∃ y a b T,r=(.pv (.tup [.agg [.bool y,i64 a,i64 b],i64 0]),[.box [.pv S],X]++T)∧(y=true↔∀ i j,(hi:i < ss.length)→(hj:j < ss.length)→ask i j=true→meetsB ss[i] ss[j]=false))
  (runF call b_clash_search [.pv (.agg [S]),.clo cix [.ptr 0 0]] [.box [.pv S],X]):=by
  generalize hQQ:(fun r:AV×List AObj=>_)=QQ
  simp (implicitDefEqProofs:=false) only[SP,WP,setRow,sevalprocAttr,-List.reduceReplicate,b_clash_search,C_loop,hSone,r1,r0,q0,hv,lS,s1,hcl4,htk4,d0,d2,d3,clean,cutEnv,AV.cut,deep_eq']
  refine wpO_mono hout ?_
  rintro r (⟨E,rfl,g4,g6,hn⟩ | ⟨E,a,b,T,rfl,g4,g6,i,j,hi,hj,h1,h2⟩)
  ·have l1:loadA [.box [.pv S],X,vbox false 0 0,vbox true 0 0] true 3 (.ptr 3 0)=some (.pv (.agg [.bool true,i64 0,i64 0])):=rfl
   have s2:storeA [.box [.pv S],X,vbox false 0 0,vbox true 0 0] 3 (.ptr 2 0) (.pv (.agg [.bool true,i64 0,i64 0]))=some [.box [.pv S],X,vbox true 0 0,vbox true 0 0]:=rfl
   have l2:loadA [.box [.pv S],X,vbox true 0 0,vbox true 0 0] true 3 (.ptr 2 0)=some (.pv (.agg [.bool true,i64 0,i64 0])):=rfl
   simp (implicitDefEqProofs:=false) only[SP,WP,setRow,sevalprocAttr,-List.reduceReplicate,g4,g6,l1,s2,l2]
   subst hQQ
   exact⟨true,0,0,_,rfl,by simpa using hn⟩
  ·have l1:loadA ([.box [.pv S],X,vbox false 0 0,vbox false a b]++T) true 3 (.ptr 3 0)=some (.pv (.agg [.bool false,i64 a,i64 b])):=rfl
   have s2:storeA ([.box [.pv S],X,vbox false 0 0,vbox false a b]++T) 3 (.ptr 2 0) (.pv (.agg [.bool false,i64 a,i64 b]))=some ([.box [.pv S],X,vbox false a b,vbox false a b]++T):=rfl
   have l2:loadA ([.box [.pv S],X,vbox false a b,vbox false a b]++T) true 3 (.ptr 2 0)=some (.pv (.agg [.bool false,i64 a,i64 b])):=rfl
   generalize hA1:[.box [.pv S],X,vbox false 0 0,vbox false a b]++T=A1 at *
   generalize hA2:[.box [.pv S],X,vbox false a b,vbox false a b]++T=A2 at *
   simp (implicitDefEqProofs:=false) only[SP,WP,setRow,sevalprocAttr,-List.reduceReplicate,g4,g6,l1,s2,l2]
   subst hQQ hA2
   refine⟨false,a,b,_,rfl,?_⟩
   simp only[Bool.false_eq_true,false_iff]
   intro h
   rw[h i j hi hj h1] at h2;cases h2
 obtain⟨r,h1,y,a,b,T,rfl,h2⟩:=wpO_spec key
 exact⟨y,a,b,T,h1,h2⟩
end
def PreOk (ss:List Shp):Prop:=∀ i j,(hi:i < ss.length)→(hj:j < ss.length)→ss[i].parts.length < ss[j].parts.length→meetsB ss[i] ss[j]=false
theorem prefix1_run (call:CallF) {S:PV} {ss:List Shp} {es:List PV} (hS:HeldSch S ss es) (i j:Nat) (H:List AObj) (hi:i < ss.length) (hj:j < ss.length) (hH:H[0]? =some (.box [.pv S])):
 runF call b_clash_Prefix_1 [.pv (i64 i),.pv (i64 j),.ptr 0 0] H=some (.pv (.bool (decide (ss[i].parts.length < ss[j].parts.length))),H):=by
 obtain⟨P,ps,hPs,a1⟩:=hS.iaddr hi
 obtain⟨Q,qs,hQs,a2⟩:=hS.iaddr hj
 have lP:=hPs.parts.lenA
 have lQ:=hQs.parts.lenA
 have p0:place H 0 (.ptr 0 0)=some (.ptr 0 0):=by simp[place,hH]
 have l0:loadA H false 1 (.ptr 0 0)=some (.pv S):=by simp[loadA,hH,partA]
 have r0:∀ H (x y:PV),loadA H false 1 (.pv (.rp [x,y] 0))=some (.pv x):=fun H x y=>rfl
 have q0:∀ H (x y:PV),place H 0 (.pv (.rp [x,y] 0))=some (.pv (.rp [x,y] 0)):=fun H x y=>rfl
 have e:decide ((ss[i].parts.length:Int) < (ss[j].parts.length:Int))=decide (ss[i].parts.length < ss[j].parts.length):=by simp
 generalize ss[i]=p at *
 generalize ss[j]=q at *
 by_cases hij:P=Q
 ·subst hij
  have:p.parts.length=q.parts.length:=by have h1:=lP [];have h2:=lQ [];rw[h1] at h2;exact Option.some.inj h2
  rw[this] at lP e ⊢
  simp (implicitDefEqProofs:=false) only[SP,WP,setRow,sevalprocAttr,-List.reduceReplicate,b_clash_Prefix_1,p0,l0,a1,a2,r0,q0,lP,e]
 ·simp (implicitDefEqProofs:=false) only[SP,WP,setRow,sevalprocAttr,-List.reduceReplicate,b_clash_Prefix_1,p0,l0,a1,a2,r0,q0,lP,lQ,e]
theorem prefix_run {S:PV} {ss:List Shp} {es:List PV} (hS:HeldSch S ss es):
 (¬ SchOk ss→F_clash_Prefix [.agg [S]]=some (.tup [.agg [.bool false,i64 0,i64 0],i64 84]))∧
 (SchOk ss→∃ y a b,F_clash_Prefix [.agg [S]]=some (.tup [.agg [.bool y,i64 a,i64 b],i64 0])∧(y=true↔PreOk ss)):=by
 have hSone:(AV.pv S).one=true:=by rcases hS.is with⟨h,_⟩ | h <;> rw[h] <;> rfl
 have c25:t_clash_Prefix 25=some b_clash_search:=rfl
 have s0:loadA [.box [.pv S],vbox false 0 0] true 1 (.ptr 0 0)=some (.pv (.agg [S])):=rfl
 constructor
 ·intro hno
  obtain⟨b,hv,hvb⟩:=scheme_valid_run hS
  have hb:b=false:=by cases b with | false=>rfl | true=>exact absurd (hvb.1 rfl) hno
  subst hb
  have r1:∀ H (x:PV),loadA H true 1 (.pv (.rp [x] 0))=some (.pv (.agg [x])):=fun H x=>rfl
  have s1:storeA [.box [.pv S],vbox false 0 0,.box [.pv (.bool false),.pv (i64 0),.pv (i64 0)]] 3 (.ptr 2 0) (.pv (.agg [.bool false,i64 0,i64 0]))=some [.box [.pv S],vbox false 0 0,vbox false 0 0]:=rfl
  have l2:loadA [.box [.pv S],vbox false 0 0,vbox false 0 0] true 3 (.ptr 2 0)=some (.pv (.agg [.bool false,i64 0,i64 0])):=rfl
  have s2:storeA [.box [.pv S],vbox false 0 0,vbox false 0 0] 3 (.ptr 1 0) (.pv (.agg [.bool false,i64 0,i64 0]))=some [.box [.pv S],vbox false 0 0,vbox false 0 0]:=rfl
  have l3:loadA [.box [.pv S],vbox false 0 0,vbox false 0 0] true 3 (.ptr 1 0)=some (.pv (.agg [.bool false,i64 0,i64 0])):=rfl
  simp (implicitDefEqProofs:=false) only[F_clash_Prefix,SP,WP,setRow,sevalprocAttr,-List.reduceReplicate,b_clash_Prefix,c25,b_clash_search,hSone,s0,r1,hv,s1,l2,s2,l3]
 ·intro hok
  have hA:Asks (callL t_clash_Prefix 7) 4 S ss.length (fun i j=>if h:i < ss.length∧j < ss.length then decide (ss[i].parts.length < ss[j].parts.length) else false):=by
   refine⟨fun i j H hi hj hH=> ?_⟩
   rw[callL_go t_clash_Prefix 6 4 _ H (f:=b_clash_Prefix_1) rfl,prefix1_run _ hS i j H hi hj hH,dif_pos ⟨hi,hj⟩]
  obtain⟨y,a,b,T,h1,h2⟩:=search_run hS hok hA (fun i j hi hj h=>by rw[dif_pos ⟨hi,hj⟩] at h;have:=of_decide_eq_true h;omega) (vbox false 0 0) (fun n=>by simp[cutObj,mapO,cut_pv])
  refine⟨y,a,b,?_,?_⟩
  ·have s2:storeA ([.box [.pv S],vbox false 0 0]++T) 3 (.ptr 1 0) (.pv (.agg [.bool y,i64 a,i64 b]))=some ([.box [.pv S],vbox y a b]++T):=rfl
   have l3:loadA ([.box [.pv S],vbox y a b]++T) true 3 (.ptr 1 0)=some (.pv (.agg [.bool y,i64 a,i64 b])):=rfl
   generalize hA1:[.box [.pv S],vbox false 0 0]++T=A1 at *
   generalize hA2:[.box [.pv S],vbox y a b]++T=A2 at *
   simp (implicitDefEqProofs:=false) only[F_clash_Prefix,SP,WP,setRow,sevalprocAttr,-List.reduceReplicate,b_clash_Prefix,c25,hSone,s0,h1,s2,l3]
  ·rw[h2]
   unfold PreOk
   constructor
   ·intro h i j hi hj hlt
    exact h i j hi hj (by rw[dif_pos ⟨hi,hj⟩];exact decide_eq_true hlt)
   ·intro h i j hi hj hlt
    rw[dif_pos ⟨hi,hj⟩] at hlt
    exact h i j hi hj (of_decide_eq_true hlt)
end Go.AM.B1
namespace Go.AM.B1
open Go.AM Go.AM.So
def cellsOf (n:Nat) (g:Nat→AV):List AV:=(List.range n).map g
theorem cellsOf_len (n:Nat) (g:Nat→AV):(cellsOf n g).length=n:=by simp[cellsOf]
theorem cellsOf_get {n i:Nat} (g:Nat→AV) (h:i < n):(cellsOf n g)[i]? =some (g i):=by simp[cellsOf,h]
def updC (g:Nat→AV) (i:Nat) (v:AV):Nat→AV:=fun j=>if j=i then v else g j
theorem updC_same (g:Nat→AV) (i:Nat) (v:AV):updC g i v i=v:=if_pos rfl
theorem updC_ne (g:Nat→AV) {i j:Nat} (v:AV) (h:j≠i):updC g i v j=g j:=if_neg h
theorem cellsOf_set {n i:Nat} (g:Nat→AV) (v:AV):(cellsOf n g).set i v=cellsOf n (updC g i v):=by
 apply List.ext_getElem?
 intro j
 by_cases hj:j < n
 ·rw[cellsOf_get _ hj]
  by_cases h:i=j
  ·subst h;rw[List.getElem?_set_self (by rw[cellsOf_len];exact hj),updC_same]
  ·rw[List.getElem?_set_ne h,cellsOf_get _ hj,updC_ne _ _ (Ne.symm h)]
 ·rw[List.getElem?_eq_none (by rw[List.length_set,cellsOf_len];omega),List.getElem?_eq_none (by rw[cellsOf_len];omega)]
theorem seq_load {H:List AObj} {id m n off sz:Nat} {ag:Bool} {g:Nat→AV} {fl:Nat} {nl:Bool} (hg:H[id]? =some (.seq sz ag (cellsOf n g) fl nl)) (hm:m=n) (ho:off < n):
 loadA H false 1 (.eptr id m off)=some (g off):=by
 subst hm
 simp only[loadA,hg,cellsOf_len,if_true,partA,Bool.false_eq_true,if_false,cellsOf_get g ho]
theorem seq_place {H:List AObj} {id m n off sz d:Nat} {ag:Bool} {g:Nat→AV} {fl:Nat} {nl:Bool} (hg:H[id]? =some (.seq sz ag (cellsOf n g) fl nl)) (hm:m=n):
 place H d (.eptr id m off)=some (.eptr id m (off+d)):=by
 subst hm
 simp only[place,hg,cellsOf_len,if_true]
theorem seq_store {H:List AObj} {id m n off sz:Nat} {ag:Bool} {g:Nat→AV} {fl:Nat} {nl:Bool} (hg:H[id]? =some (.seq sz ag (cellsOf n g) fl nl)) (hm:m=n) (ho:off < n) {v:AV} (hv:v.cells=[v]) (h1:v.one=true):
 storeA H 1 (.eptr id m off) v=some (H.set id (.seq sz ag (cellsOf n (updC g off v)) n nl)):=by
 subst hm
 simp only[storeA,hv,List.length_cons,List.length_nil,List.all_cons,h1,List.all_nil,Bool.and_true,and_self,if_true,hg,cellsOf_len]
 rw[if_pos ⟨trivial,by omega⟩]
 simp only[setRow,cellsOf_set]
def memP:List (Int×Int)→List Int
 | []=>[]
 |p::l=>memFrom 0 p++memP l
theorem memP_eq (l:List (Int×Int)):l.flatMap (memFrom 0)=memP l:=by
 induction l with
 |nil=>rfl
 |cons p l ih=>rw[List.flatMap_cons,ih];rfl
theorem memFrom0 {p:Int×Int} (h0:0≤p.1) (h1:p.1≤p.2):memFrom 0 p=(List.range (p.2 - p.1+1).toNat).map fun (i:Nat)=>p.1+(i:Int):=by
 unfold memFrom
 rw[if_neg (by omega),show max p.1 0=p.1 from by omega]
end Go.AM.B1
namespace Go.AM.B1
open Go.AM
end Go.AM.B1
namespace Go.AM.B1
open Go.AM
end Go.AM.B1
namespace Go.AM.B1
open Go.AM
abbrev u8 (n:Int):PV:= .int .u8 n
structure HeldSt (A:PV) (l:List (List Edg)):Prop where
 held:∃ es,IsL 1 A es∧es.length=l.length∧∀ (i:Nat) v e,es[i]? =some v→l[i]? =some e→IsL 3 v (e.map encE)
 len:l.length * 24≤140737488355328
 lens:∀ e∈l,e.length * 24≤140737488355328
def stepEd (b:Int):List Edg→Option Int
 | []=>none
 |e::r=>if e.lo≤b∧b≤e.hi then some e.to else stepEd b r
def stepS (l:List (List Edg)) (st b:Int):Int×Bool:=
 if st < 0 then (0,false) else match l[st.toNat]? with
  |some e=>match stepEd b e with
   |some t=>(t,true)
   |none=>(0,false)
  |none=>(0,false)
section
variable (b:Int) (hb:0≤b∧b≤255)
include hb
variable (V:PV) (l:List Edg) (hV:IsL 3 V (l.map encE)) (hw:l.length≤maxLen)
include hV hw
end
theorem HeldSt.get {A:PV} {l:List (List Edg)} (h:HeldSt A l) {i:Nat} (hi:i < l.length):∃ es V,A= .lit 1 es∧es.length=l.length∧es[i]? =some V∧IsL 3 V (l[i].map encE):=by
 obtain⟨es,h1,h2,h3⟩:=h.held
 have hie:i < es.length:=by omega
 refine⟨es,es[i],h1.lit hie,h2,by simp[hie],h3 i _ _ (by simp[hie]) (by simp[hi])⟩
theorem HeldSt.lenA {A:PV} {l:List (List Edg)} (h:HeldSt A l) (H:List AObj):lenA H 0 (.pv A)=some l.length:=by
 obtain⟨es,h1,h2,h3⟩:=h.held
 rw[h1.len,h2]
section
variable (A:PV) (l:List (List Edg)) (hA:HeldSt A l) (st b:Int) (hb:0≤b∧b≤255)
include hA hb
end
section
variable (call:CallF) (es:List PV) (st b:Int) (hb:0≤b∧b≤255) (e:List Edg) (V:PV) (h0:0≤st∧st < es.length) (hV:es[st.toNat]? =some V) (hVL:IsL 3 V (e.map encE)) (hw:e.length≤maxLen)
include h0 hV hVL
include hb hw
end
section
variable (A:PV) (l:List (List Edg)) (hA:HeldSt A l) (st b:Int) (hb:0≤b∧b≤255)
include hA hb
end
end Go.AM.B1
namespace Go.AM.B1
open Go.AM
def mapTo (like:List Int) (to:Int):Int:=if 0≤to then like.getD to.toNat 0 else to
theorem leastIn_get {like row:List Int} {i:Nat}:∀ (xs:List Nat) (C:List Int) (p:Nat),p < C.length→
 (leastIn like row i xs C)[p]? =if h:i * 256≤p∧p - i * 256∈xs∧p - i * 256 < row.length then (if 0≤row.getD (p - i * 256) 0 then some (mapTo like (row.getD (p - i * 256) 0)) else C[p]?) else C[p]?
 | [],C,p,hp=>by simp[leastIn]
 |x::xs,C,p,hp=>by
  rw[leastIn]
  have key:∀ C',C'.length=C.length→(p≠i * 256+x→C'[p]? =C[p]?)→(p=i * 256+x→C'[p]? =if x < row.length then (if 0≤row.getD x 0 then some (mapTo like (row.getD x 0)) else C[p]?) else C[p]?)→
   (leastIn like row i xs C')[p]? =if h:i * 256≤p∧p - i * 256∈x::xs∧p - i * 256 < row.length then (if 0≤row.getD (p - i * 256) 0 then some (mapTo like (row.getD (p - i * 256) 0)) else C[p]?) else C[p]? :=by
   intro C' hl h1 h2
   rw[leastIn_get xs C' p (by omega)]
   by_cases hx:p=i * 256+x
   ·have e:p - i * 256=x:=by omega
    have h3:=h2 hx
    rw[e,h3]
    have hle:i * 256≤p:=by omega
    by_cases hr:x < row.length
    ·simp only[hle,hr,and_true,true_and,List.mem_cons,true_or,dite_true,if_true]
     by_cases h0:0≤row.getD x 0
     ·simp only[h0,if_true,ite_self,dite_eq_ite]
     ·simp only[h0,if_false,ite_self,dite_eq_ite]
    ·simp[hr]
   ·rw[h1 hx]
    have:(i * 256≤p∧p - i * 256∈xs∧p - i * 256 < row.length)=(i * 256≤p∧p - i * 256∈x::xs∧p - i * 256 < row.length):=by
     refine propext ⟨fun h=>⟨h.1,by simp[h.2.1],h.2.2⟩,fun h=>⟨h.1,?_,h.2.2⟩⟩
     rcases List.mem_cons.1 h.2.1 with h4 | h4
     ·omega
     ·exact h4
    simp only[this]
  cases hr:row[x]? with
  |none=>
   refine key _ rfl (fun _=>rfl) (fun hx=> ?_)
   have:¬x < row.length:=by
    intro h;rw[List.getElem?_eq_getElem h] at hr;cases hr
   rw[if_neg this]
  |some to=>
   have hx2:x < row.length:=(List.getElem?_eq_some_iff.1 hr).1
   have hto:row.getD x 0=to:=by rw[List.getD_eq_getElem?_getD,hr];rfl
   simp only
   by_cases h0:0≤to
   ·rw[if_pos h0]
    refine key _ (by simp) (fun hx=>by rw[List.getElem?_set_ne (by omega)]) (fun hx=> ?_)
    rw[if_pos hx2,hto,if_pos h0,hx,List.getElem?_set_self (by omega),mapTo,if_pos h0]
   ·rw[if_neg h0]
    refine key _ rfl (fun _=>rfl) (fun hx=> ?_)
    rw[if_pos hx2,hto,if_neg h0]
theorem rowAt_get {C:List Int} {i x:Nat} (hx:x < 256):(rowAt C i)[x]? =C[i * 256+x]? :=by
 unfold rowAt
 rw[List.getElem?_take_of_lt hx,List.getElem?_drop]
theorem leastIn_row {n:Nat} {like C:List Int} {i:Nat} (hC:C.length=n * 256) (hi:i < n):
 rowAt (leastIn like (rowAt C i) i (List.range 256) C) i=(rowAt C i).map (mapTo like):=by
 apply List.ext_getElem?
 intro x
 by_cases hx:x < 256
 ·rw[rowAt_get hx,leastIn_get _ _ _ (by omega),List.getElem?_map]
  have e:i * 256+x - i * 256=x:=by omega
  have hl:=rowAt_len hC hi
  rw[e,dif_pos ⟨by omega,by simpa using hx,by omega⟩]
  have hg:(rowAt C i)[x]? =some ((rowAt C i).getD x 0):=by
   rw[List.getD_eq_getElem?_getD,List.getElem?_eq_getElem (by omega)];rfl
  have hg2:=hg
  rw[rowAt_get hx] at hg2
  rw[hg2,hg]
  by_cases h0:0≤(rowAt C i).getD x 0
  ·rw[if_pos h0];rfl
  ·rw[if_neg h0,Option.map_some,mapTo,if_neg h0]
 ·rw[List.getElem?_eq_none,List.getElem?_eq_none]
  ·rw[List.length_map,rowAt_len hC hi];omega
  ·rw[rowAt_len (n:=n) (by rw[leastIn_len,hC]) hi];omega
theorem leastIn_other {n:Nat} {like row C:List Int} {i j:Nat} (hC:C.length=n * 256) (hj:j < n) (hij:j≠i) (hr:row.length=256):
 rowAt (leastIn like row i (List.range 256) C) j=rowAt C j:=by
 apply List.ext_getElem?
 intro x
 by_cases hx:x < 256
 ·rw[rowAt_get hx,rowAt_get hx,leastIn_get _ _ _ (by omega)]
  rw[dif_neg]
  rintro⟨h1,h2,h3⟩
  omega
 ·rw[List.getElem?_eq_none,List.getElem?_eq_none]
  ·rw[rowAt_len hC hj];omega
  ·rw[rowAt_len (n:=n) (by rw[leastIn_len,hC]) hj];omega
structure MInv (n:Nat) (C0:List Int) (i:Nat) (s:LSt):Prop where
 hC:s.C.length=n * 256
 hk:s.like.length=n
 hi:∀ j,i≤j→j < n→rowAt s.C j=(rowAt C0 j).map (mapTo s.like)
 lo:∀ j,j < i→rowAt s.C j=rowAt C0 j
 look:∀ j,i≤j→j < n→lookR (rowAt s.C j) s.M=some (s.like.getD j 0)
 inj:∀ p∈s.M,∀ q∈s.M,p.2=q.2→p.1=q.1
 rep:∀ p∈s.M,(i:Int)≤p.2∧p.2 < n∧rowAt s.C p.2.toNat=p.1
def Later (n:Nat) (C0:List Int):Prop:=∀ j,j < n→∀ to∈rowAt C0 j,0≤to→(j:Int) < to∧to < n
theorem mapTo_set {like:List Int} {i:Nat} {v to:Int} (h:0≤to→to.toNat≠i):mapTo (like.set i v) to=mapTo like to:=by
 unfold mapTo
 split
 ·next h0=>rw[List.getD_eq_getElem?_getD,List.getD_eq_getElem?_getD,List.getElem?_set_ne (Ne.symm (h h0))]
 ·rfl
theorem lookR_app {a:List Int} {M N:List (List Int×Int)}:lookR a (M++N)=(lookR a M).or (lookR a N):=by
 induction M with
 |nil=>simp[lookR]
 |cons p M ih=>
  rw[List.cons_append,lookR,lookR]
  split
  ·rfl
  ·exact ih
theorem MInv.step {n:Nat} {C0:List Int} (hlat:Later n C0) {i:Nat} {s:LSt} (hin:i < n) (h:MInv n C0 (i+1) s):MInv n C0 i (leastOne i s):=by
 have hrow:rowAt s.C i=rowAt C0 i:=h.lo i (by omega)
 have hrl:(rowAt C0 i).length=256:=by rw[← hrow];exact rowAt_len h.hC hin
 have hC2:(leastIn s.like (rowAt s.C i) i (List.range 256) s.C).length=n * 256:=by rw[leastIn_len,h.hC]
 have hr1:=leastIn_row (like:=s.like) h.hC hin
 have hr2:∀ j,j < n→j≠i→rowAt (leastIn s.like (rowAt s.C i) i (List.range 256) s.C) j=rowAt s.C j:=fun j hj hji=>leastIn_other h.hC hj hji (by rw[hrow];exact hrl)
 have hl1:=@leastOne_some i s
 have hl2:=@leastOne_none i s
 generalize leastIn s.like (rowAt s.C i) i (List.range 256) s.C=C2 at *
 have hms:∀ v j,i≤j→j < n→(rowAt C0 j).map (mapTo (s.like.set i v))=(rowAt C0 j).map (mapTo s.like):=by
  intro v j hij hj
  apply List.map_congr_left
  intro to hto
  apply mapTo_set
  intro h0
  have:=hlat j hj to hto h0
  omega
 have main:∀ v M',lookR (rowAt C2 i) M'=some v→(∀ j,i+1≤j→j < n→lookR (rowAt C2 j) M'=lookR (rowAt s.C j) s.M)→
  (∀ p∈M',∀ q∈M',p.2=q.2→p.1=q.1)→(∀ p∈M',(i:Int)≤p.2∧p.2 < n∧rowAt C2 p.2.toNat=p.1)→MInv n C0 i ⟨C2,s.like.set i v,M'⟩:=by
  intro v M' h1 h2 h3 h4
  refine⟨hC2,by simp[h.hk],?_,?_,?_,h3,h4⟩
  ·intro j hij hj
   show rowAt C2 j=(rowAt C0 j).map (mapTo (s.like.set i v))
   rw[hms v j hij hj]
   by_cases hji:j=i
   ·subst hji;rw[hr1,hrow]
   ·rw[hr2 j hj hji,h.hi j (by omega) hj]
  ·intro j hj
   show rowAt C2 j=_
   rw[hr2 j (by omega) (by omega),h.lo j (by omega)]
  ·intro j hij hj
   show lookR (rowAt C2 j) M'=some ((s.like.set i v).getD j 0)
   by_cases hji:j=i
   ·subst hji
    rw[h1,List.getD_eq_getElem?_getD,List.getElem?_set_self (by rw[h.hk];exact hj)];rfl
   ·rw[h2 j (by omega) hj,h.look j (by omega) hj,List.getD_eq_getElem?_getD,List.getD_eq_getElem?_getD,List.getElem?_set_ne (Ne.symm hji)]
 cases hlk:lookR (rowAt C2 i) s.M with
 |some v=>
  rw[hl1 hlk]
  refine main v s.M hlk (fun j h1 h2=>by rw[hr2 j h2 (by omega)]) h.inj ?_
  intro p hp
  obtain⟨h1,h2,h3⟩:=h.rep p hp
  exact⟨by omega,h2,by rw[hr2 _ (by omega) (by omega),h3]⟩
 |none=>
  rw[hl2 hlk]
  refine main i _ (by rw[lookR_app,hlk];simp[lookR]) (fun j h1 h2=> ?_) ?_ ?_
  ·rw[hr2 j h2 (by omega),lookR_app,h.look j h1 h2];rfl
  ·intro p hp q hq hpq
   rcases List.mem_append.1 hp with hp | hp <;> rcases List.mem_append.1 hq with hq | hq
   ·exact h.inj p hp q hq hpq
   ·simp at hq;subst hq
    have:=(h.rep p hp).1
    simp only at hpq;omega
   ·simp at hp;subst hp
    have:=(h.rep q hq).1
    simp only at hpq;omega
   ·simp at hp hq;subst hp hq;rfl
  ·intro p hp
   rcases List.mem_append.1 hp with hp | hp
   ·obtain⟨h1,h2,h3⟩:=h.rep p hp
    exact⟨by omega,h2,by rw[hr2 _ (by omega) (by omega),h3]⟩
   ·simp at hp;subst hp
    exact⟨by simp,by simp;omega,by simp⟩
theorem MInv.go {n:Nat} {C0:List Int} (hlat:Later n C0):∀ (k:Nat) (s:LSt),k≤n→MInv n C0 k s→MInv n C0 0 (leastGo k s)
 |0,s,_,h=>h
 |k+1,s,hk,h=>MInv.go hlat k _ (by omega) (h.step hlat (by omega))
theorem least_inv {n:Nat} {C0:List Int} (hlat:Later n C0) (hC:C0.length=n * 256):MInv n C0 0 (leastS n C0):=by
 refine MInv.go hlat n _ (Nat.le_refl _) ⟨hC,by simp,fun j h1 h2=>by omega,fun j hj=>rfl,fun j h1 h2=>by omega,by simp,by simp⟩
theorem MInv.like_iff {n:Nat} {C0:List Int} {s:LSt} (h:MInv n C0 0 s) {j k:Nat} (hj:j < n) (hk:k < n):s.like.getD j 0=s.like.getD k 0↔rowAt s.C j=rowAt s.C k:=by
 have h1:=h.look j (by omega) hj
 have h2:=h.look k (by omega) hk
 constructor
 ·intro e
  obtain⟨p,hp,e1,e2⟩:=lookR_mem h1
  obtain⟨q,hq,e3,e4⟩:=lookR_mem h2
  rw[← e1,←e3]
  exact h.inj p hp q hq (by rw[e2,e4,e])
 ·intro e
  rw[e,h2] at h1
  exact (Option.some.inj h1).symm
theorem MInv.like_rep {n:Nat} {C0:List Int} {s:LSt} (h:MInv n C0 0 s) {j:Nat} (hj:j < n):0≤s.like.getD j 0∧s.like.getD j 0 < n∧rowAt s.C (s.like.getD j 0).toNat=rowAt s.C j:=by
 obtain⟨p,hp,e1,e2⟩:=lookR_mem (h.look j (by omega) hj)
 obtain⟨h1,h2,h3⟩:=h.rep p hp
 rw[← e2,←e1]
 exact⟨by omega,h2,h3⟩
end Go.AM.B1
namespace Go.AM.B1
open Go.AM
theorem stepEd_app (b:Int):∀ (l m:List Edg),stepEd b (l++m)=(stepEd b l).or (stepEd b m)
 | [],m=>by simp[stepEd]
 |e::l,m=>by
  rw[List.cons_append,stepEd,stepEd]
  split
  ·rfl
  ·exact stepEd_app b l m
theorem stepEd_none {b:Int}:∀ {l:List Edg},(∀ e∈l,e.hi < b)→stepEd b l=none
 | [],_=>rfl
 |e::l,h=>by
  have:=h e (by simp)
  rw[stepEd,if_neg (by omega)]
  exact stepEd_none fun x hx=>h x (by simp[hx])
theorem stepEd_mem {b:Int}:∀ {l:List Edg},l.Pairwise (fun a c=>a.hi < c.lo)→∀ e∈l,e.lo≤b→b≤e.hi→stepEd b l=some e.to
 |a::l,h,e,he,h1,h2=>by
  rw[List.pairwise_cons] at h
  rw[stepEd]
  rcases List.mem_cons.1 he with rfl | he
  ·rw[if_pos ⟨h1,h2⟩]
  ·have:=h.1 e he
   rw[if_neg (by omega)]
   exact stepEd_mem h.2 e he h1 h2
theorem stepEd_from {b t:Int}:∀ {l:List Edg},stepEd b l=some t→∃ e∈l,e.lo≤b∧b≤e.hi∧e.to=t
 |e::l,h=>by
  rw[stepEd] at h
  split at h
  ·next hc=>exact⟨e,by simp,hc.1,hc.2,Option.some.inj h⟩
  ·obtain⟨x,hx,h1⟩:=stepEd_from h
   exact⟨x,by simp[hx],h1⟩
structure EInv (row:List Int) (n:Nat) (l:List Edg):Prop where
 rng:∀ e∈l,0≤e.lo∧e.lo≤e.hi∧e.hi < n∧e.to≠ -2
 ord:l.Pairwise (fun a b=>a.hi < b.lo)
 tight:∀ (k:Nat) a b,l[k]? =some a→l[k+1]? =some b→b.lo=a.hi+1→b.to≠a.to
 step:∀ x:Nat,x < n→stepEd x l=if row.getD x 0= -2 then none else some (row.getD x 0)
theorem last_snoc {l:List Edg} {e:Edg} (h:l.getLast? =some e):∃ m,l=m++[e]:=by
 have hne:l≠[]:=by rintro rfl;simp at h
 rw[List.getLast?_eq_some_getLast hne] at h
 exact⟨l.dropLast,by rw[← Option.some.inj h];exact (List.dropLast_concat_getLast hne).symm⟩
theorem snoc_get {α:Type} {m:List α} {e a b:α} {k:Nat} (h1:(m++[e])[k]? =some a) (h2:(m++[e])[k+1]? =some b):m[k]? =some a∧((m[k+1]? =some b)∨(k+1=m.length∧b=e)):=by
 have hk:k+1 < (m++[e]).length:=(List.getElem?_eq_some_iff.1 h2).1
 simp at hk
 rw[List.getElem?_append_left (by omega)] at h1
 refine⟨h1,?_⟩
 rcases Nat.lt_or_ge (k+1) m.length with h | h
 ·rw[List.getElem?_append_left h] at h2;exact .inl h2
 ·have:k+1=m.length:=by omega
  rw[List.getElem?_append_right h,this] at h2
  simp at h2
  exact .inr ⟨this,h2.symm⟩
theorem EInv.push {row:List Int} {n:Nat} {l:List Edg} (h:EInv row n l) {to:Int} (ht:row.getD n 0=to) (h2:to≠ -2) (hl:∀ e,l.getLast? =some e→¬(e.to=to∧e.hi=(n:Int) - 1)):EInv row (n+1) (l++[⟨n,n,to⟩]):=by
 refine⟨?_,?_,?_,?_⟩
 ·intro e he
  rcases List.mem_append.1 he with he | he
  ·have:=h.rng e he;exact⟨this.1,this.2.1,by omega,this.2.2.2⟩
  ·simp at he;subst he;simp;exact⟨by omega,h2⟩
 ·rw[List.pairwise_append]
  refine⟨h.ord,by simp,?_⟩
  intro a ha b hb
  simp at hb;subst hb
  have:=h.rng a ha;simp;omega
 ·intro k a b h1 h3 h4
  obtain⟨h5,h6 | ⟨h6,rfl⟩⟩:=snoc_get h1 h3
  ·exact h.tight k a b h5 h6 h4
  ·have hla:l.getLast? =some a:=by rw[List.getLast?_eq_getElem?,←h5];congr 1;omega
   intro h7
   simp only at h4 h7
   exact hl a hla ⟨h7.symm,by omega⟩
 ·intro x hx
  rw[stepEd_app]
  rcases Nat.lt_or_ge x n with hxn | hxn
  ·rw[h.step x hxn]
   split
   ·simp only[Option.none_or,stepEd];rw[if_neg (by omega)]
   ·rfl
  ·have:x=n:=by omega
   subst this
   rw[stepEd_none fun e he=>by have:=h.rng e he;omega,Option.none_or,stepEd,if_pos (by simp),ht,if_neg h2]
theorem EInv.next {row:List Int} {n:Nat} {l:List Edg} (h:EInv row n l):EInv row (n+1) (edgeR n (row.getD n 0) l):=by
 obtain⟨to,ht⟩:∃ to,row.getD n 0=to:=⟨_,rfl⟩
 rw[ht]
 unfold edgeR
 by_cases h2:to= -2
 ·rw[if_pos h2]
  refine⟨fun e he=>by have:=h.rng e he;exact⟨this.1,this.2.1,by omega,this.2.2.2⟩,h.ord,h.tight,?_⟩
  intro x hx
  rcases Nat.lt_or_ge x n with hxn | hxn
  ·exact h.step x hxn
  ·have:x=n:=by omega
   subst this
   rw[stepEd_none fun e he=>by have:=h.rng e he;omega,ht,if_pos h2]
 ·rw[if_neg h2]
  cases hl:l.getLast? with
  |none=>exact h.push ht h2 fun e he=>by rw[hl] at he;cases he
  |some e=>
   by_cases hc:e.to=to∧e.hi=(n:Int) - 1
   ·simp only[hc,and_self,if_true]
    obtain⟨m,rfl⟩:=last_snoc hl
    rw[List.dropLast_concat]
    have hr:=h.rng e (by simp)
    have ho:=List.pairwise_append.1 h.ord
    have hlt:∀ a∈m,a.hi < e.lo:=fun a ha=>ho.2.2 a ha e (by simp)
    refine⟨?_,?_,?_,?_⟩
    ·intro x hx
     rcases List.mem_append.1 hx with hx | hx
     ·have:=h.rng x (by simp[hx]);exact⟨this.1,this.2.1,by omega,this.2.2.2⟩
     ·simp at hx;subst hx;simp only;exact⟨hr.1,by omega,by omega,h2⟩
    ·rw[List.pairwise_append]
     refine⟨ho.1,by simp,?_⟩
     intro a ha b hb
     simp at hb;subst hb
     exact hlt a ha
    ·intro k a b h1 h3 h4
     obtain⟨h5,h6 | ⟨h6,rfl⟩⟩:=snoc_get h1 h3
     ·have hk1:=(List.getElem?_eq_some_iff.1 h6).1
      exact h.tight k a b (by rw[List.getElem?_append_left (by omega)];exact h5) (by rw[List.getElem?_append_left hk1];exact h6) h4
     ·have:=h.tight k a e (by rw[List.getElem?_append_left (by omega)];exact h5) (by rw[List.getElem?_append_right (by omega),h6];simp) h4
      rw[hc.1] at this;exact this
    ·intro x hx
     rw[stepEd_app]
     rcases Nat.lt_or_ge x n with hxn | hxn
     ·rw[← h.step x hxn,stepEd_app]
      congr 1
      simp only[stepEd,hc.1]
      by_cases h3:e.lo≤(x:Int)
      ·rw[if_pos ⟨h3,by omega⟩,if_pos ⟨h3,by omega⟩]
      ·rw[if_neg fun q=>h3 q.1,if_neg fun q=>h3 q.1]
     ·have:x=n:=by omega
      subst this
      rw[stepEd_none fun a ha=>by have:=hlt a ha;omega,Option.none_or,stepEd]
      simp only
      rw[if_pos ⟨by omega,Int.le_refl _⟩,ht,if_neg h2]
   ·simp only[hc,if_false]
    exact h.push ht h2 fun e' he'=>by rw[hl] at he';injection he' with he';subst he';exact hc
theorem edgesGo_app (row:List Int):∀ (xs ys:List Nat) (l:List Edg),edgesGo row (xs++ys) l=edgesGo row ys (edgesGo row xs l)
 | [],ys,l=>rfl
 |x::xs,ys,l=>by rw[List.cons_append,edgesGo,edgesGo,edgesGo_app row xs]
theorem edges_pre (row:List Int):∀ n:Nat,EInv row n (edgesGo row (List.range n) [])
 |0=>⟨by simp[edgesGo],by simp[edgesGo],by simp[edgesGo],by omega⟩
 |n+1=>by
  rw[List.range_succ,edgesGo_app]
  exact (edges_pre row n).next
theorem edges_inv (row:List Int):EInv row 256 (edgesS row):=edges_pre row 256
def metE (m:Int) (l:List Edg):Int:=l.foldl (fun m e=>if e.to=m then m+1 else m) m
theorem metE_snoc (m:Int) (l:List Edg) (e:Edg):metE m (l++[e])=if e.to=metE m l then metE m l+1 else metE m l:=by
 unfold metE;rw[List.foldl_append];rfl
def MetOk:Int→List Edg→Prop
 |_,[]=>True
 |m,e::l=>e.to≤m∧MetOk (if e.to=m then m+1 else m) l
theorem metOk_snoc:∀ {m:Int} {l:List Edg} {e:Edg},MetOk m (l++[e])↔MetOk m l∧e.to≤metE m l
 |m,[],e=>by simp[MetOk,metE]
 |m,a::l,e=>by
  show (a.to≤m∧MetOk _ (l++[e]))↔_
  rw[metOk_snoc];exact and_assoc.symm
theorem edges_met {row:List Int} {g:Nat→Int} (h0:∀ x,0≤g x):∀ n:Nat,(∀ x,x < n→row.getD x 0≤g x)→(∀ x,x < n→g (x+1)=if row.getD x 0=g x then g x+1 else g x)→
 metE (g 0) (edgesGo row (List.range n) [])=g n∧MetOk (g 0) (edgesGo row (List.range n) [])∧(∀ e∈edgesGo row (List.range n) [],e.to < g n)
 |0,_,_=>⟨rfl,trivial,by simp[edgesGo]⟩
 |n+1,h1,h2=>by
  obtain⟨i1,i2,i3⟩:=edges_met h0 n (fun x hx=>h1 x (by omega)) (fun x hx=>h2 x (by omega))
  have hn:=h1 n (by omega)
  have hg:=h2 n (by omega)
  rw[List.range_succ,edgesGo_app]
  generalize edgesGo row (List.range n) []=l at *
  show metE (g 0) (edgeR n (row.getD n 0) l)=_∧MetOk (g 0) (edgeR n (row.getD n 0) l)∧∀ e∈edgeR n (row.getD n 0) l,_
  generalize row.getD n 0=to at *
  have hpush:metE (g 0) (l++[⟨n,n,to⟩])=g (n+1)∧MetOk (g 0) (l++[⟨n,n,to⟩])∧(∀ e∈l++[⟨n,n,to⟩],e.to < g (n+1)):=by
   refine⟨by rw[metE_snoc,i1,hg],metOk_snoc.2 ⟨i2,by rw[i1];exact hn⟩,?_⟩
   intro e he
   rcases List.mem_append.1 he with he | he
   ·have:=i3 e he;rw[hg];split <;> omega
   ·simp at he;subst he;simp only;rw[hg];split <;> omega
  unfold edgeR
  by_cases h3:to= -2
  ·have:=h0 n
   rw[if_pos h3,hg,if_neg (by omega)]
   exact⟨i1,i2,i3⟩
  ·rw[if_neg h3]
   cases hl:l.getLast? with
   |none=>exact hpush
   |some e=>
    simp only
    split
    ·next hc=>
     obtain⟨m,rfl⟩:=last_snoc hl
     have h4:=i3 e (by simp)
     rw[List.dropLast_concat,hg,if_neg (by omega)]
     rw[metE_snoc] at i1
     rw[metOk_snoc] at i2
     refine⟨by rw[metE_snoc];exact i1,metOk_snoc.2 i2,?_⟩
     intro x hx
     rcases List.mem_append.1 hx with hx | hx
     ·exact i3 x (by simp[hx])
     ·simp at hx;subst hx;exact h4
    ·exact hpush
end Go.AM.B1
namespace Go.AM.B1
open Go.AM Go.AM.So
def setE (g:Nat→Int) (e:Edg):Nat→Int:=fun b=>if e.lo≤(b:Int)∧(b:Int)≤e.hi then e.to else g b
theorem setE_fold {b:Nat}:∀ (l:List Edg) (g:Nat→Int),l.Pairwise (fun a c=>a.hi < c.lo)→l.foldl setE g b=(stepEd (b:Int) l).getD (g b)
 | [],g,_=>rfl
 |e::l,g,h=>by
  rw[List.pairwise_cons] at h
  rw[List.foldl_cons,setE_fold l _ h.2,stepEd]
  by_cases hc:e.lo≤(b:Int)∧(b:Int)≤e.hi
  ·rw[if_pos hc]
   have:stepEd (b:Int) l=none:=by
    cases hs:stepEd (b:Int) l with
    |none=>rfl
    |some t=>
     obtain⟨x,hx,h1,h2,_⟩:=stepEd_from hs
     have:=h.1 x hx
     omega
   rw[this]
   show setE g e b=e.to
   unfold setE;rw[if_pos hc]
  ·rw[if_neg hc]
   have:setE g e b=g b:=by unfold setE;rw[if_neg hc]
   rw[this]
def nextG (l:List Edg) (b:Nat):Int:=(stepEd (b:Int) l).getD (-2)
structure EdgesOk (l:List Edg):Prop where
 rng:∀ e∈l,0≤e.lo∧e.lo≤e.hi∧e.hi < 256∧ -1≤e.to∧e.to≤64
 ord:l.Pairwise (fun a b=>a.hi < b.lo)
def b8 (g:Nat→Int):AObj:= .box (cellsOf 256 fun b=> .pv (.int .i8 (g b)))
theorem cellsOf_congr {n:Nat} {g g':Nat→AV} (h:∀ b,b < n→g b=g' b):cellsOf n g=cellsOf n g':=by
 unfold cellsOf
 exact List.map_congr_left fun b hb=>h b (List.mem_range.1 hb)
theorem b8_congr {g g':Nat→Int} (h:∀ b,b < 256→g b=g' b):b8 g=b8 g':=by
 unfold b8;rw[cellsOf_congr fun b hb=>by rw[h b hb]]
theorem b8_cut (g:Nat→Int) (n:Nat):cutObj n (b8 g)=some (b8 g):=by
 have:=boxP_cut n ((List.range 256).map fun b=>PV.int .i8 (g b))
 rw[List.map_map] at this
 exact this
theorem box_place {H:List AObj} {id:Nat} {c:List AV} (h:H[id]? =some (.box c)) (d o:Nat):place H d (.ptr id o)=some (.ptr id (o+d)):=by simp only[place,h]
theorem b8_place {H:List AObj} {id:Nat} {g:Nat→Int} (h:H[id]? =some (b8 g)) (d:Nat):place H d (.ptr id 0)=some (.ptr id d):=by
 rw[box_place h,Nat.zero_add]
theorem b8_store {H:List AObj} {id i:Nat} {g:Nat→Int} (h:H[id]? =some (b8 g)) (hi:i < 256) (v:Int):storeA H 1 (.ptr id i) (.pv (.int .i8 v))=some (H.set id (b8 fun b=>if b=i then v else g b)):=by
 have e:cellsOf 256 (updC (fun b=>AV.pv (.int .i8 (g b))) i (.pv (.int .i8 v)))=cellsOf 256 (fun b=> .pv (.int .i8 (if b=i then v else g b))):=by
  refine cellsOf_congr fun b _=> ?_
  unfold updC;split <;> rfl
 simp only[storeA,AV.cells,PV.cells,List.map_cons,List.map_nil,List.length_cons,List.length_nil,List.all_cons,AV.one,List.all_nil,Bool.and_self,and_self,if_true,h,b8,cellsOf_len]
 rw[if_pos (by omega)]
 simp only[setRow,cellsOf_set,e]
theorem wrap_i8 {n:Int} (h0: -128≤n) (h1:n≤127):IntKind.i8.wrap n=n:=by
 unfold IntKind.wrap
 simp[IntKind.signed,IntKind.bits]
 omega
section
variable {call:CallF} {A:List AObj} (hA:HGood A)
include hA
theorem good_b8 (g:Nat→Int) {n:Nat} (hn:A.length≤n):∀ o∈A++[b8 g],cutObj n o=some o:=by
 intro o ho
 rcases List.mem_append.1 ho with h | h
 ·exact hA n hn o h
 ·rw[List.mem_singleton] at h;subst h;exact b8_cut g n
theorem nx_clear {E:Tr} {tb:Nat} {L S:PV} {x y:PV} {g0:Nat→Int} (htb:tb < A.length) (h8:E.get 8= .ptr tb 0) (h12:E.get 12= .pv L) (h13:E.get 13= .ptr A.length 0) (h101:E.get 101= .pv S) (h102:E.get 102= .pv x) (h103:E.get 103= .pv y) (h108:E.get 108= .pv (i64 0)):
 wpO (fun r=>r.1.stop=true∧∃ E',r=(.exit 4,⟨E',A++[b8 fun _=> -2]⟩)∧∀ t∈[8,12,13,101,102,103],E'.get t=E.get t)
  (evalC call (.loop [8,12,13,101,102,103,108] b_table_Compile_l2) ⟨E,A++[b8 g0]⟩):=by
 have hcut:∀ t∈[8,12,13,101,102,103],(E.get t).cut (A.length+1) deep=some (E.get t):=by
  intro t ht
  simp only[List.mem_cons,List.not_mem_nil,or_false] at ht
  rcases ht with rfl | rfl | rfl | rfl | rfl | rfl <;> simp only[h8,h12,h13,h101,h102,h103,cut_pv] <;> exact cut_ptr (by omega)
 refine loop_of (fun i t=>(∀ u∈[8,12,13,101,102,103],t.env.get u=E.get u)∧t.env.get 108= .pv (i64 i)∧t.H=A++[b8 fun b=>if b < i then -2 else g0 b]) 256 (by unfold rounds;omega) ?_ ?_ ?_
 ·refine EndOf.all rfl (by rw[List.length_append];exact good_b8 hA g0 (by simp)) ?_ fun E' hE=>⟨fun u hu=>hE u (by simp at hu ⊢;omega),by rw[hE 108 (by simp),h108];rfl,by simp⟩
  intro t ht
  rw[List.length_append]
  by_cases h:t=108
  ·subst h;rw[h108,cut_pv]
  ·exact hcut t (by simp at ht ⊢;omega)
 ·rintro i ⟨E1,H1⟩ hi ⟨k1,k2,k3⟩
  simp only at k1 k2 k3
  subst k3
  have g13:=k1 13 (by simp)
  rw[h13] at g13
  have e1:decide ((i:Int) < 256)=true:=dec_t (by omega)
  have t1:IntKind.i64.wrap ((i:Int)+1)=((i+1:Nat):Int):=wrap_nat1 (by omega)
  have hg:=get_top A (b8 fun b=>if b < i then -2 else g0 b)
  have p1:=b8_place hg i
  have s1:=b8_store hg hi (-2)
  rw[set_top] at s1
  have hid:(i < 256)=True:=eq_true hi
  have hc:b8 (fun b=>if b=i then -2 else if b < i then -2 else g0 b)=b8 (fun b=>if b < i+1 then -2 else g0 b):=b8_congr fun b _=>by
   by_cases h1:b=i
   ·rw[if_pos h1,if_pos (by omega)]
   ·rw[if_neg h1]
    by_cases h2:b < i
    ·rw[if_pos h2,if_pos (by omega)]
    ·rw[if_neg h2,if_neg (by omega)]
  rw[hc] at s1
  generalize hQ:RQ _ _ _ _=Q
  simp (implicitDefEqProofs:=false) only[SP,SA,WP,sevalprocAttr,-List.reduceReplicate,b_table_Compile_l2,k2,g13,e1,t1,hid,p1,s1]
  subst hQ
  rw[RQ_norm]
  refine EndOf.all (by simp) (by rw[List.length_append];exact good_b8 hA _ (by simp)) ?_ fun E' hE=>⟨fun u hu=> ?_,?_,rfl⟩
  ·intro t ht
   rw[List.length_append]
   by_cases h:t=108
   ·subst h;simp[Tr.get_set,cut_pv]
   ·have hm:t∈[8,12,13,101,102,103]:=by simp at ht ⊢;omega
    have:=k1 t hm
    have h2:=hcut t hm
    simp only[List.mem_cons,List.not_mem_nil,or_false] at hm
    rcases hm with rfl | rfl | rfl | rfl | rfl | rfl <;> simp only[Tr.get_set] <;> simp only[this] <;> simpa using h2
  ·rw[hE u (by simp at hu ⊢;omega),←k1 u hu]
   simp only[List.mem_cons,List.not_mem_nil,or_false] at hu
   rcases hu with rfl | rfl | rfl | rfl | rfl | rfl <;> simp[Tr.get_set]
  ·rw[hE 108 (by simp)];simp[Tr.get_set]
 ·rintro⟨E1,H1⟩ ⟨k1,k2,k3⟩
  simp only at k1 k2 k3
  subst k3
  have e1:decide (((256:Nat):Int) < 256)=false:=dec_f (by omega)
  generalize hQ:(fun r:Ex×St=>r.1.stop=true∧_)=Q
  simp (implicitDefEqProofs:=false) only[SP,SA,WP,sevalprocAttr,-List.reduceReplicate,b_table_Compile_l2,k2,e1]
  subst hQ
  rw[b8_congr (g':=fun _=> -2) fun b hb=>if_pos hb]
  refine⟨rfl,_,rfl,fun t ht=> ?_⟩
  ·rw[← k1 t ht]
   simp only[List.mem_cons,List.not_mem_nil,or_false] at ht
   rcases ht with rfl | rfl | rfl | rfl | rfl | rfl <;> simp[Tr.get_set]
def bx3 (e:Edg):AObj:= .box [.pv (i64 e.lo),.pv (i64 e.hi),.pv (i64 e.to)]
omit hA in
theorem bx3_cut (e:Edg) (n:Nat):cutObj n (bx3 e)=some (bx3 e):=boxP_cut n [i64 e.lo,i64 e.hi,i64 e.to]
theorem nx_edge {E:Tr} {tb:Nat} {L S:PV} {x y u v:PV} {g0:Nat→Int} {e:Edg} (he:0≤e.lo∧e.lo≤e.hi∧e.hi < 256∧ -1≤e.to∧e.to≤64) (htb:tb < A.length) (h8:E.get 8= .ptr tb 0) (h13:E.get 13= .ptr A.length 0) (h16:E.get 16= .ptr (A.length+1) 0) (h17:E.get 17= .pv (i64 e.lo))
 (h101:E.get 101= .pv S) (h102:E.get 102= .pv x) (h103:E.get 103= .pv y) (h114:E.get 114= .pv L) (h115:E.get 115= .pv u) (h116:E.get 116= .pv v):
 wpO (fun r=>r.1.stop=true∧∃ E',r=(.exit 8,⟨E',(A++[b8 (setE g0 e)])++[bx3 e]⟩)∧∀ t∈[8,13,101,102,103,114,115,116],E'.get t=E.get t)
  (evalC call (.loop [8,13,16,17,101,102,103,114,115,116] b_table_Compile_l4) ⟨E,(A++[b8 g0])++[bx3 e]⟩):=by
 have hcut:∀ t∈[8,13,16,101,102,103,114,115,116],(E.get t).cut (A.length+2) deep=some (E.get t):=by
  intro t ht
  simp only[List.mem_cons,List.not_mem_nil,or_false] at ht
  rcases ht with rfl | rfl | rfl | rfl | rfl | rfl | rfl | rfl | rfl <;> simp only[h8,h13,h16,h101,h102,h103,h114,h115,h116,cut_pv] <;> exact cut_ptr (by omega)
 have hgood:∀ g,∀ o∈(A++[b8 g])++[bx3 e],cutObj (A.length+2) o=some o:=by
  intro g o ho
  rcases List.mem_append.1 ho with h | h
  ·exact good_b8 hA g (by omega) o h
  ·rw[List.mem_singleton] at h;subst h;exact bx3_cut e _
 have hlen:∀ g,((A++[b8 g])++[bx3 e]).length=A.length+2:=fun g=>by simp
 refine loop_of (fun i t=>(∀ u∈[8,13,16,101,102,103,114,115,116],t.env.get u=E.get u)∧t.env.get 17= .pv (i64 (e.lo+i))∧t.H=(A++[b8 fun b=>if e.lo≤(b:Int)∧(b:Int) < e.lo+i then e.to else g0 b])++[bx3 e]) (e.hi - e.lo+1).toNat (by unfold rounds;omega) ?_ ?_ ?_
 ·refine EndOf.all rfl (by rw[hlen];exact hgood g0) ?_ fun E' hE=>⟨fun u hu=>hE u (by simp at hu ⊢;omega),by rw[hE 17 (by simp),h17];simp,?_⟩
  ·intro t ht
   rw[hlen]
   by_cases h:t=17
   ·subst h;rw[h17,cut_pv]
   ·exact hcut t (by simp at ht ⊢;omega)
  ·show _=_
   rw[b8_congr (g:=fun b=>if e.lo≤(b:Int)∧(b:Int) < e.lo+((0:Nat):Int) then e.to else g0 b) (g':=g0) fun b _=>if_neg (by omega)]
 ·rintro i ⟨E1,H1⟩ hi ⟨k1,k2,k3⟩
  simp only at k1 k2 k3
  subst k3
  have g13:=k1 13 (by simp)
  rw[h13] at g13
  have g16:=k1 16 (by simp)
  rw[h16] at g16
  have e1:decide (e.lo+(i:Int)≤e.hi)=true:=dec_t (by omega)
  have t1:IntKind.i64.wrap (e.lo+(i:Int)+1)=e.lo+((i+1:Nat):Int):=by rw[wrap_int (by omega)];omega
  have t2:IntKind.i8.wrap e.to=e.to:=wrap_i8 (by omega) (by omega)
  generalize hgi:(fun b:Nat=>if e.lo≤(b:Int)∧(b:Int) < e.lo+i then e.to else g0 b)=gi
  have hg:((A++[b8 gi])++[bx3 e])[A.length]? =some (b8 gi):=by rw[List.getElem?_append_left (by simp)];exact get_top _ _
  have hg2:((A++[b8 gi])++[bx3 e])[A.length+1]? =some (bx3 e):=by
   have:=get_top (A++[b8 gi]) (bx3 e)
   rw[List.length_append] at this;exact this
  have p1:=b8_place hg (e.lo+(i:Int)).toNat
  have p2:=fun d=>box_place hg2 d 0
  have l1:loadA ((A++[b8 gi])++[bx3 e]) false 1 (.ptr (A.length+1) 1)=some (.pv (i64 e.hi)):=by simp only[loadA,hg2];rfl
  have l2:loadA ((A++[b8 gi])++[bx3 e]) false 1 (.ptr (A.length+1) 2)=some (.pv (i64 e.to)):=by simp only[loadA,hg2];rfl
  have s1:=b8_store hg (i:=(e.lo+(i:Int)).toNat) (by omega) e.to
  have hset:((A++[b8 gi])++[bx3 e]).set A.length (b8 fun b=>if b=(e.lo+(i:Int)).toNat then e.to else gi b)=(A++[b8 fun b=>if e.lo≤(b:Int)∧(b:Int) < e.lo+((i+1:Nat):Int) then e.to else g0 b])++[bx3 e]:=by
   rw[List.set_append_left _ _ (by simp),set_top]
   congr 3
   refine b8_congr fun b _=> ?_
   subst hgi
   by_cases h1:b=(e.lo+(i:Int)).toNat
   ·rw[if_pos h1,if_pos (by omega)]
   ·rw[if_neg h1]
    dsimp only
    by_cases h2:e.lo≤(b:Int)∧(b:Int) < e.lo+i
    ·rw[if_pos h2,if_pos (by omega)]
    ·rw[if_neg h2,if_neg (by omega)]
  rw[hset] at s1
  have hid:(0≤e.lo+(i:Int)∧e.lo+(i:Int) < ((256:Nat):Int))=True:=eq_true (by omega)
  generalize (A++[b8 gi])++[bx3 e]=HH at *
  generalize hQ:RQ _ _ _ _=Q
  simp (implicitDefEqProofs:=false) only[SP,SA,WP,sevalprocAttr,-List.reduceReplicate,b_table_Compile_l4,k2,g13,g16,e1,t1,t2,hid,p1,p2,l1,l2,s1]
  subst hQ
  rw[RQ_norm]
  refine EndOf.all (by simp) (by rw[hlen];exact hgood _) ?_ fun E' hE=>⟨fun u hu=> ?_,?_,rfl⟩
  ·intro t ht
   rw[hlen]
   by_cases h:t=17
   ·subst h;simp[Tr.get_set,cut_pv]
   ·have hm:t∈[8,13,16,101,102,103,114,115,116]:=by simp at ht ⊢;omega
    have:=k1 t hm
    have h2:=hcut t hm
    simp only[List.mem_cons,List.not_mem_nil,or_false] at hm
    rcases hm with rfl | rfl | rfl | rfl | rfl | rfl | rfl | rfl | rfl <;> simp only[Tr.get_set] <;> simp only[this] <;> simpa using h2
  ·rw[hE u (by simp at hu ⊢;omega),←k1 u hu]
   simp only[List.mem_cons,List.not_mem_nil,or_false] at hu
   rcases hu with rfl | rfl | rfl | rfl | rfl | rfl | rfl | rfl | rfl <;> simp[Tr.get_set]
  ·rw[hE 17 (by simp)];simp[Tr.get_set]
 ·rintro⟨E1,H1⟩ ⟨k1,k2,k3⟩
  simp only at k1 k2 k3
  subst k3
  have g16:=k1 16 (by simp)
  rw[h16] at g16
  rw[show e.lo+((e.hi - e.lo+1).toNat:Int)=e.hi+1 by omega] at k2
  have e1:decide (e.hi+1≤e.hi)=false:=dec_f (by omega)
  have hb:b8 (fun b:Nat=>if e.lo≤(b:Int)∧(b:Int) < e.lo+((e.hi - e.lo+1).toNat:Int) then e.to else g0 b)=b8 (setE g0 e):=b8_congr fun b _=>by
   unfold setE
   by_cases h:e.lo≤(b:Int)∧(b:Int)≤e.hi
   ·rw[if_pos h,if_pos (by omega)]
   ·rw[if_neg h,if_neg (by omega)]
  rw[hb]
  have hg2:((A++[b8 (setE g0 e)])++[bx3 e])[A.length+1]? =some (bx3 e):=by
   have:=get_top (A++[b8 (setE g0 e)]) (bx3 e)
   rw[List.length_append] at this;exact this
  have p2:=fun d=>box_place hg2 d 0
  have l1:loadA ((A++[b8 (setE g0 e)])++[bx3 e]) false 1 (.ptr (A.length+1) 1)=some (.pv (i64 e.hi)):=by simp only[loadA,hg2];rfl
  generalize (A++[b8 (setE g0 e)])++[bx3 e]=HH at *
  generalize hQ:(fun r:Ex×St=>r.1.stop=true∧_)=Q
  simp (implicitDefEqProofs:=false) only[SP,SA,WP,sevalprocAttr,-List.reduceReplicate,b_table_Compile_l4,k2,g16,e1,p2,l1]
  subst hQ
  refine⟨rfl,_,rfl,fun t ht=> ?_⟩
  ·rw[← k1 t (by simp at ht ⊢;omega)]
   simp only[List.mem_cons,List.not_mem_nil,or_false] at ht
   rcases ht with rfl | rfl | rfl | rfl | rfl | rfl | rfl | rfl <;> simp[Tr.get_set]
end
end Go.AM.B1
