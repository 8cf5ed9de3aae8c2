/- What the reference computes: sets, schemes, shapes, clashes. -/
import Derived.Test.YtolkahifidfgeaaS3
set_option linter.unusedVariables false
set_option linter.unusedSimpArgs false
namespace Go.AM.B1
open Go.AM Go.AM.So
abbrev pbx (es:List PV):AObj:= .box (es.map .pv)
theorem pbx_place {A:List AObj} {id:Nat} {es:List PV} (hg:A[id]? =some (pbx es)) (o d:Nat):place A d (.ptr id o)=some (.ptr id (o+d)):=by
 simp only[place,hg]
theorem pbx_load {A:List AObj} {id:Nat} {es:List PV} (hg:A[id]? =some (pbx es)) {k:Nat} {e:PV} (hk:es[k]? =some e):loadA A false 1 (.ptr id k)=some (.pv e):=by
 simp only[loadA,hg,partA,Bool.false_eq_true,if_false,List.getElem?_map,hk,Option.map_some]
theorem pbx_store {A:List AObj} {id:Nat} {es:List PV} (hg:A[id]? =some (pbx es)) {k:Nat} (hk:k < es.length) {e:PV} (hc:e.cells=[e]) (h1:(AV.pv e).one=true):storeA A 1 (.ptr id k) (.pv e)=some (A.set id (pbx (es.set k e))):=by
 have hc':(AV.pv e).cells=[.pv e]:=by simp[AV.cells,hc]
 simp only[storeA,hg,hc']
 rw[if_pos ⟨rfl,by simp[h1]⟩,if_pos (by simp;omega),setRow,setRow]
 show _=some (A.set id (.box ((es.set k e).map .pv)))
 rw[List.map_set]
theorem allPV_map:∀ (es:List PV),allPV (es.map .pv)=some es
 | []=>rfl
 |e::es=>by rw[List.map_cons,allPV,allPV_map es];rfl
theorem pbx_loadAll {A:List AObj} {id n:Nat} {es:List PV} (hg:A[id]? =some (pbx es)) (hn:es.length=n):loadA A true n (.ptr id 0)=some (.pv (.agg es)):=by
 simp only[loadA,hg,partA,if_true]
 rw[if_pos (by simp;omega)]
 have:List.take n (List.drop 0 (es.map AV.pv))=es.map AV.pv:=by rw[List.drop_zero,List.take_of_length_le (by simp;omega)]
 rw[this,mkAgg,allPV_map]
theorem setRow_pre {α:Type}:∀ (vs cs pre:List α),cs.length=vs.length→setRow (pre++cs) pre.length vs=pre++vs
 | [],cs,pre,h=>by cases cs with | nil=>rfl | cons=>simp at h
 |v::vs,cs,pre,h=>by
  cases cs with
  |nil=>simp at h
  |cons c cs=>
   have:(pre++c::cs).set pre.length v=(pre++[v])++cs:=by simp
   rw[setRow,this]
   have h2:=setRow_pre vs cs (pre++[v]) (by simpa using h)
   simp only[List.length_append,List.length_singleton] at h2
   rw[h2];simp
theorem pbx_storeAll {A:List AObj} {id n:Nat} {es fs:List PV} (hg:A[id]? =some (pbx es)) (hn:es.length=n) (hf:fs.length=n) (h1:∀ e∈fs,(AV.pv e).one=true):storeA A n (.ptr id 0) (.pv (.agg fs))=some (A.set id (pbx fs)):=by
 have hc':(AV.pv (.agg fs)).cells=fs.map .pv:=rfl
 simp only[storeA,hg,hc']
 rw[if_pos ⟨by simp[hf],by rw[List.all_eq_true];intro v hv;obtain⟨e,he,rfl⟩:=List.mem_map.1 hv;exact h1 e he⟩,if_pos (by simp;omega)]
 have:=setRow_pre (fs.map AV.pv) (es.map AV.pv) [] (by simp;omega)
 simp only[List.nil_append,List.length_nil] at this
 rw[this]
theorem pbx_cut (es:List PV) (n:Nat):cutObj n (pbx es)=some (pbx es):=by
 have:mapO (AV.cut n deep) (es.map AV.pv)=some (es.map AV.pv):=by
  refine mapO_id ?_
  intro v hv
  obtain⟨e,_,rfl⟩:=List.mem_map.1 hv
  exact cut_pv
 simp only[cutObj,this,Option.map_some]
def lastAt (l:List (Int×Int)) (i:Nat):Int:=match i with
 |0=> -2
 |k+1=>match l[k]? with | some p=>p.2 | none=> -2
abbrev envRV (v:PV) (i:Int):Tr:=(Tr.lf.set 3 (.pv (i64 i))).set 0 (.pv v)
theorem ref_valid_run {v:PV} {l:List (Int×Int)} (hv:IsL 2 v (prs l)) (hw:l.length * 16≤140737488355328):F_leadtrailref03_Valid [v]=some (.bool (validR 255 (-2) l)):=by
 have hloop:wpO (fun r=>∃ E,(r=(.exit 0,⟨E,[]⟩)∧validR 255 (-2) l=true)∨(r=(.ret,⟨E,[]⟩)∧E.get 2= .pv (.bool false)∧validR 255 (-2) l=false))
  (loopA (roundA (evalC (callL (fun _=>none) 8) b_leadtrailref03_Valid_l0) (clean 0 [0,3])) rounds ⟨envRV v 0,[]⟩):=by
  refine wpO_mono (loopN_wp (g:=roundA (evalC (callL (fun _=>none) 8) b_leadtrailref03_Valid_l0) (clean 0 [0,3]))
   (fun i t=>t=⟨envRV v i,[]⟩∧ -2≤lastAt l i∧lastAt l i≤255∧validR 255 (-2) l=validR 255 (lastAt l i) (l.drop i))
   l.length (by unfold rounds;omega) _ ⟨rfl,Int.le_refl _,by show (-2:Int)≤255;decide,rfl⟩ ?_ ?_) (fun r h=>h.2)
  ·rintro i t hi ⟨rfl,hlz,hla,hs⟩
   have hl:=hv.lit (i:=i) (by simpa using hi)
   subst hl
   have hd:l.drop i=l[i]::l.drop (i+1):=List.drop_eq_getElem_cons hi
   have hnext:lastAt l (i+1)=l[i].2:=by simp[lastAt,hi]
   have a1:=lit_iaddr [] hi
   have hprev:0 < i→∃ a b,lastAt l i=b∧IntKind.i64.wrap ((i:Int) - 1)=((i - 1:Nat):Int)∧iaddrA' [] 2 (.pv (.lit 2 (prs l))) ((i - 1:Nat):Int)=some (.pv (.rp [i64 a,i64 b] 0)):=by
    intro h0
    have hi1:i - 1 < l.length:=by omega
    refine⟨l[i - 1].1,l[i - 1].2,?_,?_,lit_iaddr [] hi1⟩
    ·obtain⟨k,rfl⟩:∃ k,i=k+1:=⟨i - 1,by omega⟩
     simp[lastAt,show k < l.length by omega]
    ·rw[show (i:Int) - 1=((i - 1:Nat):Int) by omega]
     exact wrap_int (by omega)
   have e1:decide ((i:Int) < (l.length:Int))=true:=dec_t (by omega)
   have t2:=stepWrap hi (by unfold maxLen;omega)
   have ln:=IsL.len (sz:=2) (v:= .lit 2 (prs l)) (es:=prs l) (.inr rfl) []
   have lp:(prs l).length=l.length:=by simp[prs]
   rw[lp] at ln
   rw[hd,validR] at hs
   have l0:∀ a b:PV,loadA [] false 1 (.pv (.rp [a,b] 0))=some (.pv a):=fun a b=>rfl
   have l1:∀ a b:PV,loadA [] false 1 (.pv (.rp [a,b] 1))=some (.pv b):=fun a b=>rfl
   have p0:∀ a b:PV,place [] 0 (.pv (.rp [a,b] 0))=some (.pv (.rp [a,b] 0)):=fun a b=>rfl
   have p1:∀ a b:PV,place [] 1 (.pv (.rp [a,b] 0))=some (.pv (.rp [a,b] 1)):=fun a b=>rfl
   generalize l[i]=p at *
   generalize hV:validR 255 p.2 (l.drop (i+1))=V at *
   generalize prs l=es at *
   generalize hQ:LN _ _ i=Q
   by_cases c1:p.1 < 0
   ·have d1:=dec_t c1
    simp (implicitDefEqProofs:=false) only[SP,SA,WP,sevalprocAttr,-List.reduceReplicate,b_leadtrailref03_Valid_l0,e1,ln,a1,l0,l1,p0,p1,d1,envRV]
    subst hQ
    rw[d1] at hs
    exact⟨_,.inr ⟨rfl,by simp[Tr.get_set],by simpa using hs⟩⟩
   have d1:=dec_f c1
   by_cases c2:p.1 > p.2
   ·have d2:=dec_t c2
    simp (implicitDefEqProofs:=false) only[SP,SA,WP,sevalprocAttr,-List.reduceReplicate,b_leadtrailref03_Valid_l0,e1,ln,a1,l0,l1,p0,p1,d1,d2,envRV]
    subst hQ
    rw[d2] at hs
    exact⟨_,.inr ⟨rfl,by simp[Tr.get_set],by simpa using hs⟩⟩
   have d2:=dec_f c2
   by_cases c3:p.2 > 255
   ·have d3:=dec_t c3
    simp (implicitDefEqProofs:=false) only[SP,SA,WP,sevalprocAttr,-List.reduceReplicate,b_leadtrailref03_Valid_l0,e1,ln,a1,l0,l1,p0,p1,d1,d2,d3,envRV]
    subst hQ
    rw[d3] at hs
    exact⟨_,.inr ⟨rfl,by simp[Tr.get_set],by simpa using hs⟩⟩
   have d3:=dec_f c3
   have hs3:∀ b,decide (p.1 - 1≤lastAt l i)=b→validR 255 (-2) l=(!b&&V):=by
    intro b hb
    rw[hs,d1,d2,d3,hb];simp
   by_cases h0:0 < i
   ·obtain⟨a,b,hb,t3,a2⟩:=hprev h0
    have e0:decide ((i:Int) > 0)=true:=dec_t (by omega)
    rw[hb] at hla hlz hs3
    have t5:IntKind.i64.wrap (b+1)=b+1:=wrap_int (by omega)
    by_cases c4:p.1≤b+1
    ·have d4:=dec_t c4
     have hlow:validR 255 (-2) l=false:=by
      rw[hs3 true (dec_t (by omega))];rfl
     simp (implicitDefEqProofs:=false) only[SP,SA,WP,sevalprocAttr,-List.reduceReplicate,b_leadtrailref03_Valid_l0,e1,ln,a1,l0,l1,p0,p1,d1,d2,d3,e0,t3,t5,a2,d4,envRV]
     subst hQ
     exact⟨_,.inr ⟨rfl,by simp[Tr.get_set],hlow⟩⟩
    ·have d4:=dec_f c4
     simp (implicitDefEqProofs:=false) only[SP,SA,WP,sevalprocAttr,-List.reduceReplicate,b_leadtrailref03_Valid_l0,e1,ln,a1,l0,l1,p0,p1,d1,d2,d3,e0,t2,t3,t5,a2,d4,clean,cutEnv,AV.cut,deep_eq',envRV]
     subst hQ
     refine⟨rfl,by omega,by omega,?_⟩
     rw[hnext,hV,hs3 false (dec_f (by omega))];rfl
   ·have e0:decide ((i:Int) > 0)=false:=dec_f (by omega)
    have hi0:lastAt l i= -2:=by
     have:i=0:=by omega
     subst this;rfl
    simp (implicitDefEqProofs:=false) only[SP,SA,WP,sevalprocAttr,-List.reduceReplicate,b_leadtrailref03_Valid_l0,e1,ln,a1,l0,l1,p0,p1,d1,d2,d3,e0,t2,clean,cutEnv,AV.cut,deep_eq',envRV]
    subst hQ
    refine⟨rfl,by omega,by omega,?_⟩
    rw[hnext,hV,hs3 false (dec_f (by omega))];rfl
  ·rintro t ⟨rfl,hlz,hla,hs⟩
   rw[List.drop_length,validR] at hs
   have ln:=hv.len []
   rw[show (prs l).length=l.length by simp[prs]] at ln
   have e1:decide ((l.length:Int) < (l.length:Int))=false:=dec_f (by omega)
   generalize hQ:(fun r:Ex×St=>r.1.stop=true∧_)=Q
   simp (implicitDefEqProofs:=false) only[SP,SA,WP,sevalprocAttr,-List.reduceReplicate,b_leadtrailref03_Valid_l0,e1,ln,envRV]
   subst hQ
   exact⟨rfl,_,.inl ⟨rfl,hs⟩⟩
 apply wpO_eq
 simp (implicitDefEqProofs:=false) only[F_leadtrailref03_Valid,SP,SA,WP,sevalprocAttr,-List.reduceReplicate,b_leadtrailref03_Valid,C_loop,clean,cutEnv,AV.cut,deep_eq']
 refine wpO_mono hloop ?_
 rintro _ ⟨E,⟨rfl,hb⟩ | ⟨rfl,hE,hb⟩⟩
 ·simp (implicitDefEqProofs:=false) only[SP,SA,WP,sevalprocAttr,-List.reduceReplicate,hb]
 ·simp (implicitDefEqProofs:=false) only[SP,SA,WP,sevalprocAttr,-List.reduceReplicate,hE,hb]
def tab (f:Nat→Bool):List PV:=(List.range 256).map fun x=> .bool (f x)
theorem tab_len (f:Nat→Bool):(tab f).length=256:=by simp[tab]
theorem tab_get (f:Nat→Bool) {x:Nat} (h:x < 256):(tab f)[x]? =some (.bool (f x)):=by simp[tab,h]
theorem tab_at (f:Nat→Bool) {x:Nat} (h:x < (tab f).length):(tab f)[x]= .bool (f x):=by
 simp only[tab,List.getElem_map,List.getElem_range]
theorem tab_set (f:Nat→Bool) {x:Nat} (h:x < 256) (b:Bool):(tab f).set x (.bool b)=tab fun y=>if y=x then b else f y:=by
 apply List.ext_getElem
 ·rw[List.length_set,tab_len,tab_len]
 ·intro j h1 h2
  rw[List.getElem_set,tab_at,tab_at]
  by_cases hj:x=j
  ·subst hj;rw[if_pos rfl,if_pos rfl]
  ·rw[if_neg hj,if_neg (Ne.symm hj)]
theorem tab_congr {f g:Nat→Bool} (h:∀ x,x < 256→f x=g x):tab f=tab g:=by
 unfold tab
 apply List.map_congr_left
 intro x hx
 rw[h x (by simpa using hx)]
theorem tab_false:List.replicate 256 (PV.bool false)=tab fun _=>false:=by
 apply List.ext_getElem
 ·rw[List.length_replicate,tab_len]
 ·intro j h1 h2;rw[List.getElem_replicate,tab_at]
theorem tab_one (f:Nat→Bool):∀ e∈tab f,(AV.pv e).one=true:=by
 intro e he
 obtain⟨x,_,rfl⟩:=List.mem_map.1 he
 rfl
def inR (l:List (Int×Int)) (x:Nat):Bool:=l.any fun p=>decide (p.1≤(x:Int))&&decide ((x:Int)≤p.2)
theorem inR_mem {l:List (Int×Int)} {x:Nat}:inR l x=true↔memR (x:Int) l:=by
 unfold inR memR;simp
abbrev envMI (v:PV) (i y:Int):Tr:=((((Tr.lf.set 5 (.pv (i64 y))).set 4 (.pv (i64 i))).set 3 (.ptr 1 0)).set 2 (.ptr 0 0)).set 0 (.pv v)
abbrev envMO (v:PV) (i:Int):Tr:=(((Tr.lf.set 4 (.pv (i64 i))).set 3 (.ptr 1 0)).set 2 (.ptr 0 0)).set 0 (.pv v)
theorem members_inner (call:CallF) {v:PV} {l:List (Int×Int)} (hv:IsL 2 v (prs l)) {i:Nat} (hi:i < l.length) (hp:0≤l[i].1∧l[i].1≤l[i].2∧l[i].2≤255) (Z:List PV):
 wpO (fun r=>∃ E,r=(.exit 2,⟨E,[pbx Z,pbx (tab (inR (l.take (i+1))))]⟩)∧E.get 0= .pv v∧E.get 2= .ptr 0 0∧E.get 3= .ptr 1 0∧E.get 4= .pv (i64 i))
  (loopA (roundA (evalC call b_leadtrailref03_Members_l1) (clean 2 [0,2,3,4,5])) rounds ⟨envMI v i l[i].1,[pbx Z,pbx (tab (inR (l.take i)))]⟩):=by
 have hl:=hv.lit (i:=i) (by simpa using hi)
 subst hl
 have a1:=fun A=>lit_iaddr A hi
 have htk:∀ x,inR (l.take (i+1)) x=(inR (l.take i) x||(decide (l[i].1≤(x:Int))&&decide ((x:Int)≤l[i].2))):=by
  intro x
  have:l.take (i+1)=l.take i++[l[i]]:=by simp
  rw[this];simp only[inR,List.any_append,List.any_cons,List.any_nil,Bool.or_false]
 have l1:∀ (A:List AObj) (a b:PV),loadA A false 1 (.pv (.rp [a,b] 1))=some (.pv b):=fun A a b=>rfl
 have p1:∀ (A:List AObj) (a b:PV),place A 1 (.pv (.rp [a,b] 0))=some (.pv (.rp [a,b] 1)):=fun A a b=>rfl
 generalize l[i]=p at *
 generalize hes:prs l=es at *
 generalize hf:inR (l.take i)=f at *
 have hlen:∀ f,(tab f).length=256:=tab_len
 refine wpO_mono (loopN_wp (g:=roundA (evalC call b_leadtrailref03_Members_l1) (clean 2 [0,2,3,4,5]))
  (fun k t=>t=⟨envMI (.lit 2 es) i (p.1+k),[pbx Z,pbx (tab fun x=>f x||(decide (p.1≤(x:Int))&&decide ((x:Int) < p.1+k)))]⟩)
  (p.2+1 - p.1).toNat (by unfold rounds;omega) _ ?_ ?_ ?_) (fun r h=>h.2)
 ·have:(tab fun x=>f x||(decide (p.1≤(x:Int))&&decide ((x:Int) < p.1+(0:Nat))))=tab f:=by
   refine tab_congr fun x hx=> ?_
   have:(decide (p.1≤(x:Int))&&decide ((x:Int) < p.1+(0:Nat)))=false:=by
    rw[Bool.and_eq_false_iff]
    by_cases h:p.1≤(x:Int)
    ·exact .inr (dec_f (by omega))
    ·exact .inl (dec_f h)
   rw[this,Bool.or_false]
  rw[this,show p.1+((0:Nat):Int)=p.1 by omega]
 ·rintro k t hk rfl
  obtain⟨y,hy⟩:∃ y:Nat,p.1+(k:Int)=y:=⟨(p.1+k).toNat,by omega⟩
  have hy256:y < 256:=by omega
  have e1:decide ((y:Int)≤p.2)=true:=dec_t (by omega)
  have hq:idxOk (y:Int) 256:=by unfold idxOk;omega
  have t1:((y:Int)).toNat=y:=by simp
  have m1:y * 1=y:=by omega
  have z1:0+y=y:=by omega
  have t2:IntKind.i64.wrap ((y:Int)+1)=((y+1:Nat):Int):=wrap_int (by omega)
  rw[hy]
  have hnew:(tab fun x=>f x||(decide (p.1≤(x:Int))&&decide ((x:Int) < (y:Int)))).set y (.bool true)=tab fun x=>f x||(decide (p.1≤(x:Int))&&decide ((x:Int) < p.1+(k+1:Nat))):=by
   rw[tab_set _ hy256]
   refine tab_congr fun x hx=> ?_
   by_cases hxy:x=y
   ·have h1:p.1≤(x:Int):=by omega
    have h2:(x:Int) < p.1+(k+1:Nat):=by omega
    rw[if_pos hxy,dec_t h1,dec_t h2];simp
   ·have:((x:Int) < (y:Int))=((x:Int) < p.1+(k+1:Nat)):=by apply propext;omega
    rw[if_neg hxy];simp only[this]
  have hl1:=hlen fun x=>f x||(decide (p.1≤(x:Int))&&decide ((x:Int) < (y:Int)))
  generalize hT:(tab fun x=>f x||(decide (p.1≤(x:Int))&&decide ((x:Int) < (y:Int))))=T at *
  have pl:=pbx_place (A:=[pbx Z,pbx T]) (id:=1) (es:=T) rfl 0 y
  have st:=pbx_store (A:=[pbx Z,pbx T]) (id:=1) (es:=T) rfl (k:=y) (by omega) (e:= .bool true) rfl rfl
  rw[hnew] at st
  rw[z1] at pl
  have st2:([pbx Z,pbx T]:List AObj).set 1 (pbx (tab fun x=>f x||(decide (p.1≤(x:Int))&&decide ((x:Int) < p.1+(k+1:Nat)))))=[pbx Z,pbx (tab fun x=>f x||(decide (p.1≤(x:Int))&&decide ((x:Int) < p.1+(k+1:Nat))))]:=rfl
  rw[st2] at st
  have c1:=pbx_cut Z 2
  have c2:=pbx_cut (tab fun x=>f x||(decide (p.1≤(x:Int))&&decide ((x:Int) < p.1+(k+1:Nat)))) 2
  have hfin:p.1+((k+1:Nat):Int)=((y+1:Nat):Int):=by omega
  generalize hT':(tab fun x=>f x||(decide (p.1≤(x:Int))&&decide ((x:Int) < p.1+(k+1:Nat))))=T' at *
  have hcl:mapO (cutObj 2) [pbx Z,pbx T']=some [pbx Z,pbx T']:=by simp[mapO,c1,c2]
  have htk2:([pbx Z,pbx T']:List AObj).take 2=[pbx Z,pbx T']:=rfl
  generalize pbx Z=oz at *
  generalize pbx T=ot at *
  generalize hot:pbx T'=ot' at *
  have d0:(0 < 2)=True:=by simp
  have d1:(1 < 2)=True:=by simp
  generalize hQ:LN _ _ k=Q
  simp (implicitDefEqProofs:=false) only[SP,SA,WP,sevalprocAttr,-List.reduceReplicate,b_leadtrailref03_Members_l1,e1,a1,l1,p1,eq_true hq,t1,m1,pl,st,t2,hcl,htk2,d0,d1,clean,cutEnv,AV.cut,deep_eq',envMI]
  subst hQ
  show (_:St)=_
  rw[hT',hot,hfin]
 ·rintro t rfl
  have e1:decide (p.1+((p.2+1 - p.1).toNat:Int)≤p.2)=false:=dec_f (by omega)
  have hfin:(tab fun x=>f x||(decide (p.1≤(x:Int))&&decide ((x:Int) < p.1+((p.2+1 - p.1).toNat:Int))))=tab (inR (l.take (i+1))):=by
   refine tab_congr fun x hx=> ?_
   have:((x:Int) < p.1+((p.2+1 - p.1).toNat:Int))=((x:Int)≤p.2):=by apply propext;omega
   rw[htk];simp only[this]
  rw[hfin]
  generalize pbx (tab (inR (l.take (i+1))))=ot
  generalize pbx Z=oz
  generalize hQ:(fun r:Ex×St=>r.1.stop=true∧_)=Q
  simp (implicitDefEqProofs:=false) only[SP,SA,WP,sevalprocAttr,-List.reduceReplicate,b_leadtrailref03_Members_l1,e1,a1,l1,p1,envMI]
  subst hQ
  exact⟨rfl,_,rfl,by simp[Tr.get_set],by simp[Tr.get_set],by simp[Tr.get_set],by simp[Tr.get_set]⟩
theorem validR_piece {l:List (Int×Int)} {last:Int} (h:validR 255 last l=true):∀ p∈l,0≤p.1∧p.1≤p.2∧p.2≤255:=by
 induction l generalizing last with
 |nil=>intro p hp;cases hp
 |cons q l ih=>
  simp only[validR,Bool.and_eq_true,Bool.not_eq_true',Bool.or_eq_false_iff,decide_eq_false_iff_not] at h
  intro p hp
  rcases List.mem_cons.1 hp with rfl | hp
  ·omega
  ·exact ih h.2 p hp
def memB (l:List (Int×Int)) (x:Nat):Bool:=validR 255 (-2) l&&inR l x
theorem members_run {v:PV} {l:List (Int×Int)} (hv:IsL 2 v (prs l)) (hw:l.length * 16≤140737488355328):F_leadtrailref03_Members [v]=some (.agg (tab (memB l))):=by
 have hvr:=ref_valid_run hv hw
 have hz:([]++[AObj.box (List.map AV.pv (List.replicate 256 (PV.bool false)))]++[AObj.box (List.map AV.pv (List.replicate 256 (PV.bool false)))]:List AObj)=[pbx (tab fun _=>false),pbx (tab fun _=>false)]:=by rw[tab_false];rfl
 have hz1:AObj.box (List.map AV.pv (List.replicate 256 (PV.bool false)))=pbx (tab fun _=>false):=by rw[tab_false]
 have hone:∀ f,loadA [pbx (tab fun _=>false),pbx (tab f)] true 256 (.ptr 1 0)=some (.pv (.agg (tab f))):=fun f=>pbx_loadAll (id:=1) rfl (tab_len f)
 have hst:∀ f,storeA [pbx (tab fun _=>false),pbx (tab f)] 256 (.ptr 0 0) (.pv (.agg (tab f)))=some [pbx (tab f),pbx (tab f)]:=fun f=>pbx_storeAll (id:=0) rfl (tab_len _) (tab_len f) (tab_one f)
 have hl2:∀ f,loadA [pbx (tab f),pbx (tab f)] true 256 (.ptr 0 0)=some (.pv (.agg (tab f))):=fun f=>pbx_loadAll (id:=0) rfl (tab_len f)
 by_cases hok:validR 255 (-2) l=true
 ·rw[hok] at hvr
  have hfin:tab (memB l)=tab (inR l):=tab_congr fun x _=>by rw[memB,hok,Bool.true_and]
  rw[hfin]
  have hpc:=validR_piece hok
  have hloop:wpO (fun r=>∃ E,r=(.exit 0,⟨E,[pbx (tab fun _=>false),pbx (tab (inR l))]⟩)∧E.get 2= .ptr 0 0∧E.get 3= .ptr 1 0)
   (loopA (roundA (evalC (callL (fun _=>none) 8) b_leadtrailref03_Members_l0) (clean 2 [0,2,3,4])) rounds ⟨envMO v 0,[pbx (tab fun _=>false),pbx (tab fun _=>false)]⟩):=by
   refine wpO_mono (loopN_wp (g:=roundA (evalC (callL (fun _=>none) 8) b_leadtrailref03_Members_l0) (clean 2 [0,2,3,4]))
    (fun i t=>t=⟨envMO v i,[pbx (tab fun _=>false),pbx (tab (inR (l.take i)))]⟩)
    l.length (by unfold rounds;omega) _ rfl ?_ ?_) (fun r h=>h.2)
   ·rintro i t hi rfl
    have hin:=members_inner (callL (fun _=>none) 8) hv hi (hpc _ (List.getElem_mem hi)) (tab fun _=>false)
    have a1:=fun A=>lit_iaddr A hi
    have ln:=hv.len
    have hl:=hv.lit (i:=i) (by simpa using hi)
    subst hl
    have lp:(prs l).length=l.length:=by simp[prs]
    simp only[lp] at ln
    have l0:∀ (A:List AObj) (a b:PV),loadA A false 1 (.pv (.rp [a,b] 0))=some (.pv a):=fun A a b=>rfl
    have p0:∀ (A:List AObj) (a b:PV),place A 0 (.pv (.rp [a,b] 0))=some (.pv (.rp [a,b] 0)):=fun A a b=>rfl
    have e1:decide ((i:Int) < (l.length:Int))=true:=dec_t (by omega)
    have t2:=stepWrap hi (by unfold maxLen;omega)
    have hcl:∀ f g,mapO (cutObj 2) [pbx (tab f),pbx (tab g)]=some [pbx (tab f),pbx (tab g)]:=fun f g=>by
     have c1:=pbx_cut (tab f) 2
     have c2:=pbx_cut (tab g) 2
     simp only[mapO,c1,c2,Option.bind_some,Option.map_some]
    have hcl1:=hcl (fun _=>false) (inR (l.take i))
    have hcl2:=hcl (fun _=>false) (inR (l.take (i+1)))
    have htk2:∀ a b:AObj,([a,b]:List AObj).take 2=[a,b]:=fun a b=>rfl
    generalize l[i]=p at *
    generalize hes:prs l=es at *
    have hI:⟨envMO (.lit 2 es) (i+1:Nat),[pbx (tab fun _=>false),pbx (tab (inR (l.take (i+1))))]⟩=(⟨envMO (.lit 2 es) (i+1:Nat),[pbx (tab fun _=>false),pbx (tab (inR (l.take (i+1))))]⟩:St):=rfl
    have hLN:∀ s:St,s=⟨envMO (.lit 2 es) (i+1:Nat),[pbx (tab fun _=>false),pbx (tab (inR (l.take (i+1))))]⟩→LN (fun i t=>t=⟨envMO (.lit 2 es) i,[pbx (tab fun _=>false),pbx (tab (inR (l.take i)))]⟩) (fun r=>∃ E,r=(.exit 0,⟨E,[pbx (tab fun _=>false),pbx (tab (inR l))]⟩)∧E.get 2= .ptr 0 0∧E.get 3= .ptr 1 0) i (.norm,s):=fun s h=>h
    generalize pbx (tab fun _=>false)=oz at *
    generalize pbx (tab (inR (l.take i)))=ot at *
    generalize pbx (tab (inR (l.take (i+1))))=ot' at *
    have d0:(0 < 2)=True:=by simp
    have d1:(1 < 2)=True:=by simp
    generalize hQ:LN _ _ i=Q at hLN ⊢
    simp (implicitDefEqProofs:=false) only[SP,SA,WP,sevalprocAttr,-List.reduceReplicate,b_leadtrailref03_Members_l0,C_loop,e1,ln,a1,l0,p0,hcl1,htk2,d0,d1,clean,cutEnv,AV.cut,deep_eq',envMO]
    refine wpO_mono hin ?_
    rintro r ⟨E,rfl,g0,g2,g3,g4⟩
    simp (implicitDefEqProofs:=false) only[SP,SA,WP,sevalprocAttr,-List.reduceReplicate,g0,g2,g3,g4,t2,hcl2,htk2,d0,d1,clean,cutEnv,AV.cut,deep_eq']
    exact hLN _ rfl
   ·rintro t rfl
    rw[List.take_length]
    have ln:=hv.len
    simp only[show (prs l).length=l.length by simp[prs]] at ln
    have e1:decide ((l.length:Int) < (l.length:Int))=false:=dec_f (by omega)
    generalize pbx (tab (inR l))=ot
    generalize pbx (tab fun _=>false)=oz
    generalize hQ:(fun r:Ex×St=>r.1.stop=true∧_)=Q
    simp (implicitDefEqProofs:=false) only[SP,SA,WP,sevalprocAttr,-List.reduceReplicate,b_leadtrailref03_Members_l0,e1,ln,envMO]
    subst hQ
    exact⟨rfl,_,rfl,by simp[Tr.get_set],by simp[Tr.get_set]⟩
  have hcl:mapO (cutObj 2) [pbx (tab fun _=>false),pbx (tab fun _=>false)]=some [pbx (tab fun _=>false),pbx (tab fun _=>false)]:=by
   have c1:=pbx_cut (tab fun _=>false) 2
   simp only[mapO,c1,Option.bind_some,Option.map_some]
  have htk2:∀ a b:AObj,([a,b]:List AObj).take 2=[a,b]:=fun a b=>rfl
  have hst1:=hst (inR l)
  have hone1:=hone (inR l)
  have hl21:=hl2 (inR l)
  have d0:(0 < 2)=True:=by simp
  have d1:(1 < 2)=True:=by simp
  generalize hzs:List.replicate 256 (PV.bool false)=zs at *
  generalize pbx (tab fun _=>false)=oz at *
  generalize pbx (tab (inR l))=ot at *
  generalize tab (inR l)=T at *
  apply wpO_eq
  simp (implicitDefEqProofs:=false) only[F_leadtrailref03_Members,SP,SA,WP,sevalprocAttr,-List.reduceReplicate,b_leadtrailref03_Members,hzs,hz1,C_loop,hvr,hcl,htk2,d0,d1,clean,cutEnv,AV.cut,deep_eq']
  refine wpO_mono hloop ?_
  rintro r ⟨E,rfl,g2,g3⟩
  simp (implicitDefEqProofs:=false) only[SP,SA,WP,sevalprocAttr,-List.reduceReplicate,g2,g3,hone1,hst1,hl21]
 ·have hok':validR 255 (-2) l=false:=by simpa using hok
  rw[hok'] at hvr
  have hfin:tab (memB l)=tab fun _=>false:=tab_congr fun x _=>by rw[memB,hok',Bool.false_and]
  rw[hfin]
  have hst1:=hst fun _=>false
  have hone1:=hone fun _=>false
  have hl21:=hl2 fun _=>false
  generalize hzs:List.replicate 256 (PV.bool false)=zs at *
  generalize pbx (tab fun _=>false)=oz at *
  generalize tab (fun _=>false)=T at *
  apply wpO_eq
  simp (implicitDefEqProofs:=false) only[F_leadtrailref03_Members,SP,SA,WP,sevalprocAttr,-List.reduceReplicate,b_leadtrailref03_Members,hzs,hz1,hvr,hone1,hst1,hl21]
end Go.AM.B1
namespace Go.AM.B1
open Go.AM Go.AM.So
def cntB (f:Nat→Bool) (n:Nat):Nat:=(List.range n).countP f
theorem cntB_zero (f:Nat→Bool):cntB f 0=0:=rfl
theorem cntB_succ (f:Nat→Bool) (n:Nat):cntB f (n+1)=cntB f n+if f n then 1 else 0:=by
 unfold cntB
 rw[List.range_succ,List.countP_append]
 simp[List.countP_cons]
theorem cntB_le (f:Nat→Bool) (n:Nat):cntB f n≤n:=by
 have:=List.countP_le_length (p:=f) (l:=List.range n)
 simpa[cntB] using this
theorem cntB_or {f g h:Nat→Bool} (n:Nat) (hf:∀ x,x < n→f x=(g x||h x)) (hd:∀ x,x < n→g x=true→h x=true→False):cntB f n=cntB g n+cntB h n:=by
 induction n with
 |zero=>rfl
 |succ n ih=>
  rw[cntB_succ,cntB_succ,cntB_succ,ih (fun x hx=>hf x (by omega)) (fun x hx=>hd x (by omega)),hf n (by omega)]
  have:=hd n (by omega)
  cases h1:g n <;> cases h2:h n <;> simp_all <;> omega
theorem cntB_iv (a b:Nat) (n:Nat):cntB (fun x=>decide (a≤x)&&decide (x < b)) n=min n b - min a (min n b):=by
 induction n with
 |zero=>simp[cntB_zero]
 |succ n ih=>
  rw[cntB_succ,ih]
  by_cases h:a≤n∧n < b
  ·rw[if_pos (by simp[h])];omega
  ·rw[if_neg (by simpa using fun h1=>Nat.le_of_not_lt fun h2=>h ⟨h1,h2⟩)];omega
theorem sizeR_cnt:∀ (l:List (Int×Int)) (last n:Int),validR 255 last l=true→sizeR n l=n+cntB (inR l) 256
 | [],_,n,_=>by
   have:cntB (inR []) 256=0:=by
    unfold cntB;rw[List.countP_eq_zero];intro x _;simp[inR]
   rw[this];simp[sizeR]
 |p::l,last,n,h=>by
  have hp:=validR_piece h p (by simp)
  have h2:=h
  simp only[validR,Bool.and_eq_true] at h2
  rw[sizeR,sizeR_cnt l p.2 _ h2.2]
  have hor:cntB (inR (p::l)) 256=cntB (fun x=>decide (p.1.toNat≤x)&&decide (x < (p.2+1).toNat)) 256+cntB (inR l) 256:=by
   apply cntB_or
   ·intro x _
    simp only[inR,List.any_cons]
    congr 1
    congr 1 <;> (rw[decide_eq_decide];omega)
   ·intro x _ h3 h4
    have:=validR_memlow h2.2 (inR_mem.1 h4)
    simp at h3;omega
  have hiv:=cntB_iv p.1.toNat (p.2+1).toNat 256
  rw[hor,hiv];omega
def sizeB (l:List (Int×Int)):Nat:=cntB (memB l) 256
theorem sizeB_ok {l:List (Int×Int)} (h:validR 255 (-2) l=true):(sizeB l:Int)=sizeR 0 l:=by
 rw[sizeR_cnt l _ _ h]
 have:memB l=inR l:=by funext x;rw[memB,h,Bool.true_and]
 rw[sizeB,this];omega
abbrev envZB (x n:Int):Tr:=((Tr.lf.set 5 (.pv (i64 x))).set 4 (.pv (i64 n))).set 3 (.ptr 0 0)
theorem ref_size_run {v:PV} {l:List (Int×Int)} (hv:IsL 2 v (prs l)) (hw:l.length * 16≤140737488355328):F_leadtrailref03_Size [v]=some (i64 (sizeB l)):=by
 have hm:=members_run hv hw
 unfold sizeB
 generalize hf:memB l=f at *
 have hloop:wpO (fun r=>∃ E H,r=(.exit 0,⟨E,H⟩)∧E.get 4= .pv (i64 (cntB f 256)))
  (loopA (roundA (evalC (callL (fun _=>none) 8) b_leadtrailref03_Size_l0) (clean 1 [3,4,5])) rounds ⟨envZB 0 0,[pbx (tab f)]⟩):=by
  refine wpO_mono (loopN_wp (g:=roundA (evalC (callL (fun _=>none) 8) b_leadtrailref03_Size_l0) (clean 1 [3,4,5]))
   (fun x t=>t=⟨envZB x (cntB f x),[pbx (tab f)]⟩)
   256 (by unfold rounds;omega) _ rfl ?_ ?_) (fun r h=>h.2)
  ·rintro x t hx rfl
   have e1:decide ((x:Int)≤255)=true:=dec_t (by omega)
   have hq:idxOk (x:Int) 256:=by unfold idxOk;omega
   have t1:((x:Int)).toNat=x:=by simp
   have m1:x * 1=x:=by omega
   have z1:0+x=x:=by omega
   have t2:IntKind.i64.wrap ((x:Int)+1)=((x+1:Nat):Int):=wrap_int (by omega)
   have hle:=cntB_le f x
   have t3:IntKind.i64.wrap ((cntB f x:Int)+1)=(cntB f x:Int)+1:=wrap_int (by omega)
   have pl:=pbx_place (A:=[pbx (tab f)]) (id:=0) (es:=tab f) rfl 0 x
   rw[z1] at pl
   have ld:=pbx_load (A:=[pbx (tab f)]) (id:=0) (es:=tab f) rfl (tab_get f hx)
   have hcl:mapO (cutObj 1) [pbx (tab f)]=some [pbx (tab f)]:=by simp only[mapO,pbx_cut,Option.bind_some,Option.map_some]
   have htk:([pbx (tab f)]:List AObj).take 1=[pbx (tab f)]:=rfl
   have d0:(0 < 1)=True:=by simp
   have hs:=cntB_succ f x
   generalize hO:pbx (tab f)=O at *
   generalize hQ:LN _ _ x=Q
   cases hfx:f x with
   |true=>
    rw[hfx] at hs ld
    simp (implicitDefEqProofs:=false) only[SP,SA,WP,sevalprocAttr,-List.reduceReplicate,b_leadtrailref03_Size_l0,e1,eq_true hq,t1,m1,pl,ld,t2,t3,hcl,htk,d0,clean,cutEnv,AV.cut,deep_eq',envZB]
    subst hQ
    show (_:St)=_
    rw[hs];rfl
   |false=>
    rw[hfx] at hs ld
    simp (implicitDefEqProofs:=false) only[SP,SA,WP,sevalprocAttr,-List.reduceReplicate,b_leadtrailref03_Size_l0,e1,eq_true hq,t1,m1,pl,ld,t2,hcl,htk,d0,clean,cutEnv,AV.cut,deep_eq',envZB]
    subst hQ
    show (_:St)=_
    rw[hs];rfl
  ·rintro t rfl
   have e1:decide (((256:Nat):Int)≤255)=false:=dec_f (by omega)
   generalize cntB f 256=c
   generalize hQ:(fun r:Ex×St=>r.1.stop=true∧_)=Q
   simp (implicitDefEqProofs:=false) only[SP,SA,WP,sevalprocAttr,-List.reduceReplicate,b_leadtrailref03_Size_l0,e1,envZB]
   subst hQ
   exact⟨rfl,_,_,rfl,by simp[Tr.get_set]⟩
 have hz1:AObj.box (List.map AV.pv (List.replicate 256 (PV.bool false)))=pbx (tab fun _=>false):=by rw[tab_false]
 have st:storeA [pbx (tab fun _=>false)] 256 (.ptr 0 0) (.pv (.agg (tab f)))=some [pbx (tab f)]:=pbx_storeAll (id:=0) rfl (tab_len _) (tab_len f) (tab_one f)
 have hcl:mapO (cutObj 1) [pbx (tab f)]=some [pbx (tab f)]:=by simp only[mapO,pbx_cut,Option.bind_some,Option.map_some]
 have htk:([pbx (tab f)]:List AObj).take 1=[pbx (tab f)]:=rfl
 have d0:(0 < 1)=True:=by simp
 generalize cntB f 256=c at *
 generalize hzs:List.replicate 256 (PV.bool false)=zs at *
 generalize pbx (tab fun _=>false)=oz at *
 generalize pbx (tab f)=ot at *
 generalize tab f=T at *
 apply wpO_eq
 simp (implicitDefEqProofs:=false) only[F_leadtrailref03_Size,SP,SA,WP,sevalprocAttr,-List.reduceReplicate,b_leadtrailref03_Size,hzs,hz1,C_loop,hm,st,hcl,htk,d0,clean,cutEnv,AV.cut,deep_eq']
 refine wpO_mono hloop ?_
 rintro r ⟨E,H,rfl,hE⟩
 simp (implicitDefEqProofs:=false) only[SP,SA,WP,sevalprocAttr,-List.reduceReplicate,hE]
theorem ref_has_run {v:PV} {l:List (Int×Int)} (hv:IsL 2 v (prs l)) (hw:l.length * 16≤140737488355328) (x:Int):
 F_leadtrailref03_Has [v,i64 x]=some (.bool (decide (0≤x)&&decide (x≤255)&&memB l x.toNat)):=by
 have hm:=members_run hv hw
 generalize hf:memB l=f at *
 by_cases h0:0≤x
 ·have e0:decide (x≥0)=true:=dec_t (by omega)
  rw[show decide (0≤x)=true from dec_t h0]
  by_cases h1:x≤255
  ·have e1:decide (x≤255)=true:=dec_t h1
   have hq:idxOk x 256:=by unfold idxOk;omega
   have m1:x.toNat * 1=x.toNat:=by omega
   have hg:=tab_get f (x:=x.toNat) (by omega)
   have hp:partP false 1 (tab f) x.toNat=some (.bool (f x.toNat)):=by unfold partP;exact hg
   rw[e1]
   generalize f x.toNat=b at *
   generalize tab f=T at *
   simp (implicitDefEqProofs:=false) only[F_leadtrailref03_Has,SP,SA,WP,sevalprocAttr,-List.reduceReplicate,b_leadtrailref03_Has,e0,e1,hm,eq_true hq,m1,hp,Bool.true_and]
  ·have e1:decide (x≤255)=false:=dec_f h1
   simp (implicitDefEqProofs:=false) only[F_leadtrailref03_Has,SP,SA,WP,sevalprocAttr,-List.reduceReplicate,b_leadtrailref03_Has,e0,e1,Bool.true_and,Bool.false_and]
 ·have e0:decide (x≥0)=false:=dec_f (by omega)
  rw[show decide (0≤x)=false from dec_f h0]
  simp (implicitDefEqProofs:=false) only[F_leadtrailref03_Has,SP,SA,WP,sevalprocAttr,-List.reduceReplicate,b_leadtrailref03_Has,e0,Bool.false_and]
abbrev envCt (row:List PV) (i n:Int):Tr:=((Tr.lf.set 4 (.pv (i64 i))).set 3 (.pv (i64 n))).set 1 (.pv (.rp row 0))
theorem ref_count_run {e:PV} {s:Shp} {P:PV} {ps:List PV} (h:HeldShp e s P ps) (hok:∀ l∈s.parts,PartOk l):F_leadtrailref08_Count [e]=some (i64 (lastN 1 s.parts)):=by
 obtain⟨rfl,hP⟩:=h
 have hb:=lastN_bound s.parts 1 hok (by omega) (by omega)
 have hsz:=hP.sz
 have ln:=hP.lenA
 have q0:∀ H (x y:PV),place H 0 (.pv (.rp [x,y] 0))=some (.pv (.rp [x,y] 0)):=fun H x y=>rfl
 have r0:∀ H (x y:PV),loadA H false 1 (.pv (.rp [x,y] 0))=some (.pv x):=fun H x y=>rfl
 have hloop:wpO (fun r=>∃ E H,r=(.exit 0,⟨E,H⟩)∧E.get 3= .pv (i64 (lastN 1 s.parts)))
  (loopA (roundA (evalC (callL (fun _=>none) 8) b_leadtrailref08_Count_l0) (clean 0 [1,3,4])) rounds ⟨envCt [P,i64 s.first] 0 1,[]⟩):=by
  refine wpO_mono (loopN_wp (g:=roundA (evalC (callL (fun _=>none) 8) b_leadtrailref08_Count_l0) (clean 0 [1,3,4]))
   (fun i t=>∃ n,t=⟨envCt [P,i64 s.first] i n,[]⟩∧1≤n∧n≤1073741825∧lastN 1 s.parts=lastN n (s.parts.drop i))
   s.parts.length (by unfold rounds;unfold maxLen at hsz;omega) _ ⟨1,rfl,by omega,by omega,rfl⟩ ?_ ?_) (fun r h=>h.2)
  ·rintro i t hi ⟨n,rfl,h1,h2,hs⟩
   obtain⟨v,hv,hpt,a1⟩:=hP.iaddr hi []
   have hd:s.parts.drop i=s.parts[i]::s.parts.drop (i+1):=List.drop_eq_getElem_cons hi
   have hpo:=hok s.parts[i] (List.getElem_mem hi)
   have hss:=ref_size_run hpt.is hpt.sz
   rw[sizeB_ok hpo.2] at hss
   have hsb:=partOk_size hpo
   rw[hd,lastN] at hs
   generalize s.parts[i]=l at *
   have hm:=mul_small h1 h2 hsb.1 hsb.2
   have e1:decide ((i:Int) < (s.parts.length:Int))=true:=dec_t (by omega)
   have t2:=stepWrap hi hsz
   have t3:IntKind.i64.wrap (n * sizeR 0 l)=n * sizeR 0 l:=wrap_int (by omega)
   have a2:∀ H (v:PV),loadA H false 1 (.pv (.rp [v] 0))=some (.pv v):=fun H v=>rfl
   generalize hQ:LN _ _ i=Q
   by_cases hg:n * sizeR 0 l > 1073741824
   ·have d1:=dec_t hg
    simp (implicitDefEqProofs:=false) only[SP,SA,WP,sevalprocAttr,-List.reduceReplicate,b_leadtrailref08_Count_l0,e1,ln,q0,r0,t2,t3,a1,a2,hss,d1,clean,cutEnv,AV.cut,deep_eq',envCt]
    subst hQ
    refine⟨1073741825,rfl,by omega,by omega,?_⟩
    rw[hs];congr 1;split <;> omega
   ·have d1:=dec_f hg
    simp (implicitDefEqProofs:=false) only[SP,SA,WP,sevalprocAttr,-List.reduceReplicate,b_leadtrailref08_Count_l0,e1,ln,q0,r0,t2,t3,a1,a2,hss,d1,clean,cutEnv,AV.cut,deep_eq',envCt]
    subst hQ
    refine⟨n * sizeR 0 l,rfl,by omega,by omega,?_⟩
    rw[hs];congr 1;split <;> omega
  ·rintro t ⟨n,rfl,h1,h2,hs⟩
   rw[List.drop_length,lastN] at hs
   have e1:decide ((s.parts.length:Int) < (s.parts.length:Int))=false:=dec_f (by omega)
   generalize hQ:(fun r:Ex×St=>r.1.stop=true∧_)=Q
   simp (implicitDefEqProofs:=false) only[SP,SA,WP,sevalprocAttr,-List.reduceReplicate,b_leadtrailref08_Count_l0,e1,ln,q0,r0,envCt]
   subst hQ
   exact⟨rfl,_,_,rfl,by simp[Tr.get_set,hs]⟩
 have hP1:(AV.pv P).one=true:=by rcases hP.is with⟨h,_⟩ | h <;> rw[h] <;> rfl
 generalize lastN 1 s.parts=n at *
 apply wpO_eq
 simp (implicitDefEqProofs:=false) only[F_leadtrailref08_Count,SP,SA,WP,sevalprocAttr,-List.reduceReplicate,b_leadtrailref08_Count,hP1,C_loop,clean,cutEnv,AV.cut,deep_eq']
 refine wpO_mono hloop ?_
 rintro r ⟨E,H,rfl,hE⟩
 simp (implicitDefEqProofs:=false) only[SP,SA,WP,sevalprocAttr,-List.reduceReplicate,hE]
end Go.AM.B1
namespace Go.AM.B1
open Go.AM Go.AM.So
theorem rp2_place (H:List AObj) (x y:PV):place H 0 (.pv (.rp [x,y] 0))=some (.pv (.rp [x,y] 0)):=rfl
theorem rp2_place1 (H:List AObj) (x y:PV):place H 1 (.pv (.rp [x,y] 0))=some (.pv (.rp [x,y] 1)):=rfl
theorem rp2_load (H:List AObj) (x y:PV):loadA H false 1 (.pv (.rp [x,y] 0))=some (.pv x):=rfl
theorem rp2_load1 (H:List AObj) (x y:PV):loadA H false 1 (.pv (.rp [x,y] 1))=some (.pv y):=rfl
theorem rp2_loadA (H:List AObj) (x y:PV):loadA H true 2 (.pv (.rp [x,y] 0))=some (.pv (.agg [x,y])):=rfl
theorem rp1_load (H:List AObj) (x:PV):loadA H false 1 (.pv (.rp [x] 0))=some (.pv x):=rfl
theorem rp1_place (H:List AObj) (x:PV):place H 0 (.pv (.rp [x] 0))=some (.pv (.rp [x] 0)):=rfl
theorem rp1_loadA (H:List AObj) (x:PV):loadA H true 1 (.pv (.rp [x] 0))=some (.pv (.agg [x])):=rfl
abbrev envVS (row:List PV) (i:Int):Tr:=(Tr.lf.set 3 (.pv (i64 i))).set 1 (.pv (.rp row 0))
theorem ref_validshape_run {e:PV} {s:Shp} {P:PV} {ps:List PV} (h:HeldShp e s P ps):∃ b,F_leadtrailref08_ValidShape [e]=some (.bool b)∧(b=true↔ShpOk s):=by
 have hh:=h
 obtain⟨rfl,hP⟩:=h
 have hsz:=hP.sz
 have ln:=hP.lenA
 have hP1:(AV.pv P).one=true:=by rcases hP.is with⟨h,_⟩ | h <;> rw[h] <;> rfl
 by_cases c1:(s.parts.length:Int) < 1
 ·have d1:=dec_t c1
  refine⟨false,?_,by simp;intro h;have:=h.lo;omega⟩
  simp (implicitDefEqProofs:=false) only[F_leadtrailref08_ValidShape,SP,SA,WP,sevalprocAttr,-List.reduceReplicate,b_leadtrailref08_ValidShape,hP1,rp2_place,rp2_place1,rp2_load,rp2_load1,ln,d1]
 have d1:=dec_f c1
 by_cases c2:(s.parts.length:Int) > 8
 ·have d2:=dec_t c2
  refine⟨false,?_,by simp;intro h;have:=h.hi;omega⟩
  simp (implicitDefEqProofs:=false) only[F_leadtrailref08_ValidShape,SP,SA,WP,sevalprocAttr,-List.reduceReplicate,b_leadtrailref08_ValidShape,hP1,rp2_place,rp2_place1,rp2_load,rp2_load1,ln,d1,d2]
 have d2:=dec_f c2
 by_cases c3:s.first < 0
 ·have d3:=dec_t c3
  refine⟨false,?_,by simp;intro h;have:=h.f0;omega⟩
  simp (implicitDefEqProofs:=false) only[F_leadtrailref08_ValidShape,SP,SA,WP,sevalprocAttr,-List.reduceReplicate,b_leadtrailref08_ValidShape,hP1,rp2_place,rp2_place1,rp2_load,rp2_load1,ln,d1,d2,d3]
 have d3:=dec_f c3
 by_cases c4:s.first > 1073741823
 ·have d4:=dec_t c4
  refine⟨false,?_,by simp;intro h;have:=h.f1;omega⟩
  simp (implicitDefEqProofs:=false) only[F_leadtrailref08_ValidShape,SP,SA,WP,sevalprocAttr,-List.reduceReplicate,b_leadtrailref08_ValidShape,hP1,rp2_place,rp2_place1,rp2_load,rp2_load1,ln,d1,d2,d3,d4]
 have d4:=dec_f c4
 have hloop:wpO (fun r=>∃ E,(r=(.exit 0,⟨E,[]⟩)∧E.get 1= .pv (.rp [P,i64 s.first] 0)∧∀ l∈s.parts,PartOk l)∨(r=(.ret,⟨E,[]⟩)∧E.get 2= .pv (.bool false)∧¬∀ l∈s.parts,PartOk l))
  (loopA (roundA (evalC (callL (fun _=>none) 8) b_leadtrailref08_ValidShape_l0) (clean 0 [1,3])) rounds ⟨envVS [P,i64 s.first] 0,[]⟩):=by
  refine wpO_mono (loopN_wp (g:=roundA (evalC (callL (fun _=>none) 8) b_leadtrailref08_ValidShape_l0) (clean 0 [1,3]))
   (fun i t=>t=⟨envVS [P,i64 s.first] i,[]⟩∧∀ l∈s.parts.take i,PartOk l)
   s.parts.length (by unfold rounds;unfold maxLen at hsz;omega) _ ⟨rfl,by simp⟩ ?_ ?_) (fun r h=>h.2)
  ·rintro i t hi ⟨rfl,hs⟩
   obtain⟨v,hv,hpt,a1⟩:=hP.iaddr hi []
   have hmem:=List.getElem_mem hi
   have hnext:PartOk s.parts[i]→∀ l∈s.parts.take (i+1),PartOk l:=by
    intro h l hl
    have:s.parts.take (i+1)=s.parts.take i++[s.parts[i]]:=by simp
    rw[this] at hl
    rcases List.mem_append.1 hl with h1 | h1
    ·exact hs l h1
    ·simp at h1;subst h1;exact h
   have hvl:=ref_valid_run hpt.is hpt.sz
   have lv:=hpt.is.len
   simp only[prs,List.length_map] at lv
   generalize s.parts[i]=l at *
   have e1:decide ((i:Int) < (s.parts.length:Int))=true:=dec_t (by omega)
   have t2:=stepWrap hi hsz
   generalize hQ:LN _ _ i=Q
   by_cases h0:l=[]
   ·have e0:((l.length:Int)==0)=true:=by simp[h0]
    simp (implicitDefEqProofs:=false) only[SP,SA,WP,sevalprocAttr,-List.reduceReplicate,b_leadtrailref08_ValidShape_l0,e1,ln,rp2_place,rp2_load,rp1_load,a1,lv,e0,envVS]
    subst hQ
    exact⟨_,.inr ⟨rfl,by simp[Tr.get_set],fun h=>(h _ hmem).1 h0⟩⟩
   ·have e0:((l.length:Int)==0)=false:=by
     have:l.length≠0:=fun e=>h0 (List.eq_nil_of_length_eq_zero e)
     exact beq_ne (by omega)
    cases hb:validR 255 (-2) l with
    |true=>
     rw[hb] at hvl
     simp (implicitDefEqProofs:=false) only[SP,SA,WP,sevalprocAttr,-List.reduceReplicate,b_leadtrailref08_ValidShape_l0,e1,ln,rp2_place,rp2_load,rp1_load,a1,lv,e0,hvl,t2,clean,cutEnv,AV.cut,deep_eq',envVS]
     subst hQ
     exact⟨rfl,hnext ⟨h0,hb⟩⟩
    |false=>
     rw[hb] at hvl
     simp (implicitDefEqProofs:=false) only[SP,SA,WP,sevalprocAttr,-List.reduceReplicate,b_leadtrailref08_ValidShape_l0,e1,ln,rp2_place,rp2_load,rp1_load,a1,lv,e0,hvl,envVS]
     subst hQ
     exact⟨_,.inr ⟨rfl,by simp[Tr.get_set],fun h=>by have:=(h _ hmem).2;rw[hb] at this;cases this⟩⟩
  ·rintro t ⟨rfl,hs⟩
   rw[List.take_length] at hs
   have e1:decide ((s.parts.length:Int) < (s.parts.length:Int))=false:=dec_f (by omega)
   generalize hQ:(fun r:Ex×St=>r.1.stop=true∧_)=Q
   simp (implicitDefEqProofs:=false) only[SP,SA,WP,sevalprocAttr,-List.reduceReplicate,b_leadtrailref08_ValidShape_l0,e1,ln,rp2_place,rp2_load,envVS]
   subst hQ
   exact⟨rfl,_,.inl ⟨rfl,by simp[Tr.get_set],hs⟩⟩
 have key:wpO (fun r=>∃ b,r=(.pv (.bool b),([]:List AObj))∧(b=true↔ShpOk s)) (runF (callL (fun _=>none) 8) b_leadtrailref08_ValidShape [.pv (.agg [P,i64 s.first])] []):=by
  generalize hQQ:(fun r:AV×List AObj=>_)=QQ
  simp (implicitDefEqProofs:=false) only[SP,SA,WP,sevalprocAttr,-List.reduceReplicate,b_leadtrailref08_ValidShape,hP1,rp2_place,rp2_place1,rp2_load,rp2_load1,ln,d1,d2,d3,d4,C_loop,clean,cutEnv,AV.cut,deep_eq']
  refine wpO_mono hloop ?_
  rintro _ ⟨E,⟨rfl,hE,hb⟩ | ⟨rfl,hE,hb⟩⟩
  ·have hct:=ref_count_run hh hb
   have hbd:=lastN_bound s.parts 1 hb (by omega) (by omega)
   have hif:(decide (s.first+lastN 1 s.parts - 1≤1073741823)=true)↔ShpOk s:=by
    rw[decide_eq_true_iff]
    constructor
    ·intro h;exact⟨by omega,by omega,by omega,by omega,hb,h⟩
    ·intro h;exact h.last
   generalize lastN 1 s.parts=n at *
   have t3:IntKind.i64.wrap (s.first+n)=s.first+n:=wrap_int (by omega)
   have t4:IntKind.i64.wrap (s.first+n - 1)=s.first+n - 1:=wrap_int (by omega)
   simp (implicitDefEqProofs:=false) only[SP,SA,WP,sevalprocAttr,-List.reduceReplicate,hE,rp2_place,rp2_place1,rp2_load,rp2_load1,rp2_loadA,hct,t3,t4]
   subst hQQ
   exact⟨_,rfl,hif⟩
  ·simp (implicitDefEqProofs:=false) only[SP,SA,WP,sevalprocAttr,-List.reduceReplicate,hE]
   subst hQQ
   exact⟨false,rfl,by simp;exact fun h=>hb h.parts⟩
 obtain⟨r,h1,b,rfl,hb⟩:=wpO_spec key
 refine⟨b,?_,hb⟩
 generalize hk:runF (callL (fun _=>none) 8) b_leadtrailref08_ValidShape [.pv (.agg [P,i64 s.first])] []=k at h1
 subst h1
 have:F_leadtrailref08_ValidShape [.agg [P,i64 s.first]]=(runF (callL (fun _=>none) 8) b_leadtrailref08_ValidShape [.pv (.agg [P,i64 s.first])] []).bind fun r=>toPV r.2 deep r.1:=rfl
 rw[this,hk];rfl
theorem ref_count9_run {e:PV} {s:Shp} {P:PV} {ps:List PV} (h:HeldShp e s P ps) (hok:ShpOk s):F_leadtrailref09_Count [e]=some (i64 (lastN 1 s.parts)):=by
 obtain⟨b,hb,hbb⟩:=ref_validshape_run h
 have hc:=ref_count_run h hok.parts
 have:=hbb.2 hok
 subst this
 obtain⟨rfl,hP⟩:=h
 have hP1:(AV.pv P).one=true:=by rcases hP.is with⟨h,_⟩ | h <;> rw[h] <;> rfl
 simp (implicitDefEqProofs:=false) only[F_leadtrailref09_Count,SP,SA,WP,sevalprocAttr,-List.reduceReplicate,b_leadtrailref09_Count,hP1,rp2_loadA,hb,hc]
end Go.AM.B1
namespace Go.AM.B1
open Go.AM Go.AM.So
theorem apart_iff {p q:Shp} (hp:ShpOk p) (hq:ShpOk q):Apart p q↔¬(q.first≤lastS p∧p.first≤lastS q):=by
 have h1:=hp.rng
 have h2:=hq.rng
 unfold Apart
 constructor
 ·intro h hn
  by_cases hle:p.first≤q.first
  ·exact h q.first ⟨⟨hle,hn.1⟩,⟨Int.le_refl _,h2⟩⟩
  ·exact h p.first ⟨⟨Int.le_refl _,h1⟩,⟨by omega,hn.2⟩⟩
 ·intro h x hx
  exact h ⟨by omega,by omega⟩
theorem lastS_bound {p:Shp} (hp:ShpOk p):1≤lastN 1 p.parts∧lastN 1 p.parts≤1073741825:=lastN_bound p.parts 1 hp.parts (by omega) (by omega)
abbrev envMj (S:PV) (i j:Int):Tr:=((Tr.lf.set 5 (.pv (i64 j))).set 1 (.pv (i64 i))).set 0 (.pv S)
theorem ref_meet_run {S:PV} {ss:List Shp} {es:List PV} (hS:HeldSch S ss es) {i:Nat} (hi:i < ss.length) (hok:∀ j,j≤i→(h:j < ss.length)→ShpOk ss[j]):
 ∃ b,F_leadtrailref08_meet [S,i64 i]=some (.bool b)∧(b=false↔∀ j,j < i→(h:j < ss.length)→Apart ss[j] ss[i]):=by
 have hsz:=hS.sz
 obtain⟨P,ps,hP,a0⟩:=hS.iaddr hi
 have okp:=hok i (Nat.le_refl _) hi
 have hcp:=ref_count_run hP okp.parts
 have hbp:=lastS_bound okp
 have hap:=fun j (hj:j < i) (h:j < ss.length)=>apart_iff (hok j (by omega) h) okp
 generalize ss[i]=p at *
 have hloop:wpO (fun r=>∃ E,(r=(.exit 0,⟨E,[]⟩)∧∀ j,j < i→(h:j < ss.length)→Apart ss[j] p)∨(r=(.ret,⟨E,[]⟩)∧E.get 4= .pv (.bool true)∧∃ j,j < i∧∃ h:j < ss.length,¬Apart ss[j] p))
  (loopA (roundA (evalC (callL (fun _=>none) 8) b_leadtrailref08_meet_l0) (clean 0 [0,1,5])) rounds ⟨envMj S i 0,[]⟩):=by
  refine wpO_mono (loopN_wp (g:=roundA (evalC (callL (fun _=>none) 8) b_leadtrailref08_meet_l0) (clean 0 [0,1,5]))
   (fun j t=>t=⟨envMj S i j,[]⟩∧∀ j',j' < j→(h:j' < ss.length)→Apart ss[j'] p)
   i (by unfold rounds;unfold maxLen at hsz;omega) _ ⟨rfl,by intro j h;omega⟩ ?_ ?_) (fun r h=>h.2)
  ·rintro j t hj ⟨rfl,hs⟩
   have hj2:j < ss.length:=by omega
   obtain⟨Q,qs,hQ,b0⟩:=hS.iaddr hj2
   have okq:=hok j (by omega) hj2
   have hcq:=ref_count_run hQ okq.parts
   have hbq:=lastS_bound okq
   have haq:=hap j hj hj2
   have hnext:Apart ss[j] p→∀ j',j' < j+1→(h:j' < ss.length)→Apart ss[j'] p:=by
    intro h j' h1 h2
    rcases Nat.lt_or_ge j' j with h3 | h3
    ·exact hs j' h3 h2
    ·have:j'=j:=by omega
     subst this;exact h
   have hex:¬Apart ss[j] p→∃ j,j < i∧∃ h:j < ss.length,¬Apart ss[j] p:=fun h=>⟨j,hj,hj2,h⟩
   have hqf0:=okq.f0
   have hqf1:=okq.f1
   have hpf0:=okp.f0
   have hpf1:=okp.f1
   unfold lastS at haq
   generalize hq:ss[j]=q at *
   generalize lastN 1 p.parts=np at *
   generalize lastN 1 q.parts=nq at *
   have e1:decide ((j:Int) < (i:Int))=true:=dec_t (by omega)
   have t2:=stepWrap hj (show i≤maxLen by omega)
   have t3:IntKind.i64.wrap (q.first+nq)=q.first+nq:=wrap_int (by omega)
   have t4:IntKind.i64.wrap (q.first+nq - 1)=q.first+nq - 1:=wrap_int (by omega)
   have t5:IntKind.i64.wrap (p.first+np)=p.first+np:=wrap_int (by omega)
   have t6:IntKind.i64.wrap (p.first+np - 1)=p.first+np - 1:=wrap_int (by omega)
   generalize hQQ:LN _ _ j=QQ
   by_cases c1:p.first≤q.first+nq - 1
   ·have d1:=dec_t c1
    by_cases c2:q.first≤p.first+np - 1
    ·have d2:=dec_t c2
     simp (implicitDefEqProofs:=false) only[SP,SA,WP,sevalprocAttr,-List.reduceReplicate,b_leadtrailref08_meet_l0,e1,a0,b0,rp2_place1,rp2_load1,rp2_loadA,hcp,hcq,t3,t4,t5,t6,d1,d2,envMj]
     subst hQQ
     exact⟨_,.inr ⟨rfl,by simp[Tr.get_set],hex (fun h=>(haq.1 h) ⟨c1,c2⟩)⟩⟩
    ·have d2:=dec_f c2
     simp (implicitDefEqProofs:=false) only[SP,SA,WP,sevalprocAttr,-List.reduceReplicate,b_leadtrailref08_meet_l0,e1,a0,b0,rp2_place1,rp2_load1,rp2_loadA,hcp,hcq,t2,t3,t4,t5,t6,d1,d2,clean,cutEnv,AV.cut,deep_eq',envMj]
     subst hQQ
     exact⟨rfl,hnext (haq.2 fun h=>c2 h.2)⟩
   ·have d1:=dec_f c1
    simp (implicitDefEqProofs:=false) only[SP,SA,WP,sevalprocAttr,-List.reduceReplicate,b_leadtrailref08_meet_l0,e1,a0,b0,rp2_place1,rp2_load1,rp2_loadA,hcp,hcq,t2,t3,t4,d1,clean,cutEnv,AV.cut,deep_eq',envMj]
    subst hQQ
    exact⟨rfl,hnext (haq.2 fun h=>c1 h.1)⟩
  ·rintro t ⟨rfl,hs⟩
   have e1:decide ((i:Int) < (i:Int))=false:=dec_f (by omega)
   generalize hQ:(fun r:Ex×St=>r.1.stop=true∧_)=Q
   simp (implicitDefEqProofs:=false) only[SP,SA,WP,sevalprocAttr,-List.reduceReplicate,b_leadtrailref08_meet_l0,e1,envMj]
   subst hQ
   exact⟨rfl,_,.inl ⟨rfl,hs⟩⟩
 have key:wpO (fun r=>∃ b,r=PV.bool b∧(b=false↔∀ j,j < i→(h:j < ss.length)→Apart ss[j] p)) (F_leadtrailref08_meet [S,i64 i]):=by
  generalize hQQ:(fun r:PV=>_)=QQ
  simp (implicitDefEqProofs:=false) only[F_leadtrailref08_meet,SP,SA,WP,sevalprocAttr,-List.reduceReplicate,b_leadtrailref08_meet,C_loop,clean,cutEnv,AV.cut,deep_eq']
  refine wpO_mono hloop ?_
  rintro _ ⟨E,⟨rfl,hb⟩ | ⟨rfl,hE,j,hj,hj2,hb⟩⟩
  ·simp (implicitDefEqProofs:=false) only[SP,SA,WP,sevalprocAttr,-List.reduceReplicate]
   subst hQQ
   exact⟨false,rfl,by simpa using hb⟩
  ·simp (implicitDefEqProofs:=false) only[SP,SA,WP,sevalprocAttr,-List.reduceReplicate,hE]
   subst hQQ
   exact⟨true,rfl,by simp;exact⟨j,hj,hj2,hb⟩⟩
 obtain⟨r,h1,b,rfl,hb⟩:=wpO_spec key
 exact⟨b,h1,hb⟩
abbrev envRV1 (row:List PV) (i:Int):Tr:=(Tr.lf.set 3 (.pv (i64 i))).set 1 (.pv (.rp row 0))
theorem schOk_iff {ss:List Shp}:SchOk ss↔ss.length≤32∧∀ i,(hi:i < ss.length)→ShpOk ss[i]∧∀ j,j < i→(h:j < ss.length)→Apart ss[j] ss[i]:=by
 constructor
 ·intro h
  refine⟨h.len,fun i hi=>⟨h.shp _ (List.getElem_mem hi),fun j hj hj2=> ?_⟩⟩
  exact List.pairwise_iff_getElem.1 h.apart j i hj2 hi hj
 ·rintro⟨h1,h2⟩
  refine⟨h1,?_,?_⟩
  ·intro s hs
   obtain⟨i,hi,rfl⟩:=List.getElem_of_mem hs
   exact (h2 i hi).1
  ·rw[List.pairwise_iff_getElem]
   intro i j hi hj hij
   exact (h2 j hj).2 i hij hi
theorem ref_valid8_run {S:PV} {ss:List Shp} {es:List PV} (hS:HeldSch S ss es):∃ b,F_leadtrailref08_Valid [.agg [S]]=some (.bool b)∧(b=true↔SchOk ss):=by
 have hsz:=hS.sz
 have ln:=hS.lenA
 have hS1:(AV.pv S).one=true:=by rcases hS.is with⟨h,_⟩ | h <;> rw[h] <;> rfl
 by_cases c1:(ss.length:Int) > 32
 ·have d1:=dec_t c1
  refine⟨false,?_,by simp;intro h;have:=h.len;omega⟩
  simp (implicitDefEqProofs:=false) only[F_leadtrailref08_Valid,SP,SA,WP,sevalprocAttr,-List.reduceReplicate,b_leadtrailref08_Valid,hS1,rp1_place,rp1_load,ln,d1]
 have d1:=dec_f c1
 have hloop:wpO (fun r=>∃ E,(r=(.exit 0,⟨E,[]⟩)∧SchOk ss)∨(r=(.ret,⟨E,[]⟩)∧E.get 2= .pv (.bool false)∧¬SchOk ss))
  (loopA (roundA (evalC (callL (fun _=>none) 8) b_leadtrailref08_Valid_l0) (clean 0 [1,3])) rounds ⟨envRV1 [S] 0,[]⟩):=by
  refine wpO_mono (loopN_wp (g:=roundA (evalC (callL (fun _=>none) 8) b_leadtrailref08_Valid_l0) (clean 0 [1,3]))
   (fun i t=>t=⟨envRV1 [S] i,[]⟩∧∀ k,k < i→(hk:k < ss.length)→ShpOk ss[k]∧∀ j,j < k→(h:j < ss.length)→Apart ss[j] ss[k])
   ss.length (by unfold rounds;unfold maxLen at hsz;omega) _ ⟨rfl,by intro j h;omega⟩ ?_ ?_) (fun r h=>h.2)
  ·rintro i t hi ⟨rfl,hs⟩
   obtain⟨P,ps,hP,a0⟩:=hS.iaddr hi
   obtain⟨b,hb,hbb⟩:=ref_validshape_run hP
   have hmt:ShpOk ss[i]→_:=fun h=>ref_meet_run hS hi (fun j hj hj2=>by
    rcases Nat.lt_or_ge j i with h1 | h1
    ·exact (hs j h1 hj2).1
    ·have:j=i:=by omega
     subst this;exact h)
   have hnext:ShpOk ss[i]→(∀ j,j < i→(h:j < ss.length)→Apart ss[j] ss[i])→∀ k,k < i+1→(hk:k < ss.length)→ShpOk ss[k]∧∀ j,j < k→(h:j < ss.length)→Apart ss[j] ss[k]:=by
    intro h1 h2 k hk hk2
    rcases Nat.lt_or_ge k i with h3 | h3
    ·exact hs k h3 hk2
    ·have:k=i:=by omega
     subst this;exact⟨h1,h2⟩
   have hbad:¬(ShpOk ss[i]∧∀ j,j < i→(h:j < ss.length)→Apart ss[j] ss[i])→¬SchOk ss:=fun h hh=>h ((schOk_iff.1 hh).2 i hi)
   generalize hgi:ss[i]=p at *
   have e1:decide ((i:Int) < (ss.length:Int))=true:=dec_t (by omega)
   have t2:=stepWrap hi hsz
   generalize hQQ:LN _ _ i=QQ
   cases b with
   |false=>
    have hno:¬ShpOk p:=fun h=>by have:=hbb.2 h;cases this
    simp (implicitDefEqProofs:=false) only[SP,SA,WP,sevalprocAttr,-List.reduceReplicate,b_leadtrailref08_Valid_l0,e1,ln,rp1_place,rp1_load,a0,rp2_loadA,hb,envRV1]
    subst hQQ
    exact⟨_,.inr ⟨rfl,by simp[Tr.get_set],hbad fun h=>hno h.1⟩⟩
   |true=>
    have okp:=hbb.1 rfl
    obtain⟨c,hc,hcc⟩:=hmt okp
    cases c with
    |false=>
     simp (implicitDefEqProofs:=false) only[SP,SA,WP,sevalprocAttr,-List.reduceReplicate,b_leadtrailref08_Valid_l0,e1,ln,rp1_place,rp1_load,a0,rp2_loadA,hb,hc,t2,clean,cutEnv,AV.cut,deep_eq',envRV1]
     subst hQQ
     exact⟨rfl,hnext okp (hcc.1 rfl)⟩
    |true=>
     simp (implicitDefEqProofs:=false) only[SP,SA,WP,sevalprocAttr,-List.reduceReplicate,b_leadtrailref08_Valid_l0,e1,ln,rp1_place,rp1_load,a0,rp2_loadA,hb,hc,envRV1]
     subst hQQ
     exact⟨_,.inr ⟨rfl,by simp[Tr.get_set],hbad fun h=>by have:=hcc.2 h.2;cases this⟩⟩
  ·rintro t ⟨rfl,hs⟩
   have e1:decide ((ss.length:Int) < (ss.length:Int))=false:=dec_f (by omega)
   generalize hQ:(fun r:Ex×St=>r.1.stop=true∧_)=Q
   simp (implicitDefEqProofs:=false) only[SP,SA,WP,sevalprocAttr,-List.reduceReplicate,b_leadtrailref08_Valid_l0,e1,ln,rp1_place,rp1_load,envRV1]
   subst hQ
   exact⟨rfl,_,.inl ⟨rfl,schOk_iff.2 ⟨by omega,fun i hi=>hs i hi hi⟩⟩⟩
 have key:wpO (fun r=>∃ b,r=PV.bool b∧(b=true↔SchOk ss)) (F_leadtrailref08_Valid [.agg [S]]):=by
  generalize hQQ:(fun r:PV=>_)=QQ
  simp (implicitDefEqProofs:=false) only[F_leadtrailref08_Valid,SP,SA,WP,sevalprocAttr,-List.reduceReplicate,b_leadtrailref08_Valid,hS1,rp1_place,rp1_load,ln,d1,C_loop,clean,cutEnv,AV.cut,deep_eq']
  refine wpO_mono hloop ?_
  rintro _ ⟨E,⟨rfl,hb⟩ | ⟨rfl,hE,hb⟩⟩
  ·simp (implicitDefEqProofs:=false) only[SP,SA,WP,sevalprocAttr,-List.reduceReplicate]
   subst hQQ
   exact⟨true,rfl,by simpa using hb⟩
  ·simp (implicitDefEqProofs:=false) only[SP,SA,WP,sevalprocAttr,-List.reduceReplicate,hE]
   subst hQQ
   exact⟨false,rfl,by simpa using hb⟩
 obtain⟨r,h1,b,rfl,hb⟩:=wpO_spec key
 exact⟨b,h1,hb⟩
end Go.AM.B1
namespace Go.AM.B1
open Go.AM Go.AM.So
abbrev envRC (rp rq:List PV) (n i:Int) (nl:Bool) (es:List PV):Tr:=((((Tr.lf.set 9 (.pv (i64 i))).set 8 (.uq 0 nl 1 es)).set 4 (.pv (.rp rq 0))).set 3 (.pv (.rp rp 0))).set 2 (.pv (i64 n))
abbrev envRCi (rp rq:List PV) (n i x:Int) (nl:Bool) (es:List PV):Tr:=(((((Tr.lf.set 10 (.pv (i64 x))).set 9 (.pv (i64 i))).set 8 (.uq 0 nl 1 es)).set 4 (.pv (.rp rq 0))).set 3 (.pv (.rp rp 0))).set 2 (.pv (i64 n))
theorem ref_common_inner (call:CallF) {P Q:PV} {a b:PV} {n:Int} {lp lq:List (List (Int×Int))} {ps qs:List PV} (hp:HeldParts P lp ps) (hq:HeldParts Q lq qs) {i:Nat} (hip:i < lp.length) (hiq:i < lq.length) (nl:Bool) (es:List PV) (m:Nat):
 wpO (fun r=>∃ E y,r=(.exit 2,⟨E,[.tok 1 m nl]⟩)∧E.get 2= .pv (i64 n)∧E.get 3= .pv (.rp [P,a] 0)∧E.get 4= .pv (.rp [Q,b] 0)∧E.get 8= .uq 0 nl 1 es∧E.get 9= .pv (i64 i)∧E.get 10= .pv (i64 (y:Nat))∧
  ((y < 256∧memB lp[i] y=true∧memB lq[i] y=true)∨(y=256∧∀ x,x < 256→¬(memB lp[i] x=true∧memB lq[i] x=true))))
  (loopA (roundA (evalC call b_leadtrailref09_Common_l1) (clean 1 [2,3,4,8,9,10])) rounds ⟨envRCi [P,a] [Q,b] n i 0 nl es,[.tok 1 m nl]⟩):=by
 obtain⟨v,hv,hpv,a1⟩:=hp.iaddr hip [.tok 1 m nl]
 obtain⟨w,hw,hqw,a2⟩:=hq.iaddr hiq [.tok 1 m nl]
 have hhp:=ref_has_run hpv.is hpv.sz
 have hhq:=ref_has_run hqw.is hqw.sz
 generalize lp[i]=lv at *
 generalize lq[i]=lw at *
 refine wpO_mono (loopN_wp (g:=roundA (evalC call b_leadtrailref09_Common_l1) (clean 1 [2,3,4,8,9,10]))
  (fun x t=>t=⟨envRCi [P,a] [Q,b] n i x nl es,[.tok 1 m nl]⟩∧∀ x',x' < x→¬(memB lv x'=true∧memB lw x'=true))
  256 (by unfold rounds;omega) _ ⟨rfl,by intro x h;omega⟩ ?_ ?_) (fun r h=>h.2)
 ·rintro x t hx ⟨rfl,hs⟩
  have e1:decide ((x:Int) < 256)=true:=dec_t (by omega)
  have t2:IntKind.i64.wrap ((x:Int)+1)=((x+1:Nat):Int):=wrap_int (by omega)
  have hp1:=hhp (x:Int)
  have hq1:=hhq (x:Int)
  rw[dec_t (show (0:Int)≤x by omega),dec_t (show (x:Int)≤255 by omega),Int.toNat_natCast,Bool.true_and,Bool.true_and] at hp1 hq1
  have hz:(0 < 1)=True:=by simp
  have hnext:¬(memB lv x=true∧memB lw x=true)→∀ x',x' < x+1→¬(memB lv x'=true∧memB lw x'=true):=by
   intro h x' hx'
   rcases Nat.lt_or_ge x' x with h1 | h1
   ·exact hs x' h1
   ·have:x'=x:=by omega
    subst this;exact h
  generalize hQ:LN _ _ x=QQ
  cases h1:memB lv x with
  |false=>
   rw[h1] at hp1
   simp (implicitDefEqProofs:=false) only[SP,SA,WP,sevalprocAttr,-List.reduceReplicate,b_leadtrailref09_Common_l1,e1,rp2_place,rp2_load,rp1_load,a1,a2,hp1,t2,hz,clean,cutEnv,AV.cut,cutObj,deep_eq',envRCi]
   subst hQ
   exact⟨rfl,hnext (by rw[h1];simp)⟩
  |true=>
   rw[h1] at hp1
   cases h2:memB lw x with
   |false=>
    rw[h2] at hq1
    simp (implicitDefEqProofs:=false) only[SP,SA,WP,sevalprocAttr,-List.reduceReplicate,b_leadtrailref09_Common_l1,e1,rp2_place,rp2_load,rp1_load,a1,a2,hp1,hq1,t2,hz,clean,cutEnv,AV.cut,cutObj,deep_eq',envRCi]
    subst hQ
    exact⟨rfl,hnext (by rw[h2];simp)⟩
   |true=>
    rw[h2] at hq1
    simp (implicitDefEqProofs:=false) only[SP,SA,WP,sevalprocAttr,-List.reduceReplicate,b_leadtrailref09_Common_l1,e1,rp2_place,rp2_load,rp1_load,a1,a2,hp1,hq1,envRCi]
    subst hQ
    exact⟨_,x,rfl,by simp[Tr.get_set],by simp[Tr.get_set],by simp[Tr.get_set],by simp[Tr.get_set],by simp[Tr.get_set],by simp[Tr.get_set],.inl ⟨hx,h1,h2⟩⟩
 ·rintro t ⟨rfl,hs⟩
  have e1:decide (((256:Nat):Int) < 256)=false:=dec_f (by omega)
  generalize hQ:(fun r:Ex×St=>r.1.stop=true∧_)=QQ
  simp (implicitDefEqProofs:=false) only[SP,SA,WP,sevalprocAttr,-List.reduceReplicate,b_leadtrailref09_Common_l1,e1,envRCi]
  subst hQ
  exact⟨rfl,_,256,rfl,by simp[Tr.get_set],by simp[Tr.get_set],by simp[Tr.get_set],by simp[Tr.get_set],by simp[Tr.get_set],by simp[Tr.get_set],.inr ⟨rfl,hs⟩⟩
theorem meetAt_iff {p q:List (List (Int×Int))} {i:Nat} (hp:i < p.length) (hq:i < q.length) (vp:validR 255 (-2) p[i]=true) (vq:validR 255 (-2) q[i]=true):
 meetAt p q i≠[]↔∃ x,x < 256∧memB p[i] x=true∧memB q[i] x=true:=by
 have hmA:meetAt p q i=meetR (p[i].length+q[i].length) p[i] q[i]:=by
  unfold meetAt
  rw[List.getElem?_eq_getElem hp,List.getElem?_eq_getElem hq]
 have hlaw:=meetR_law _ _ _ (-2) (-2) vp vq (Nat.le_refl _)
 have hme:=validR_piece vp
 rw[hmA]
 generalize p[i]=a at *
 generalize q[i]=b at *
 constructor
 ·intro h
  obtain⟨m,hm⟩:=List.exists_mem_of_ne_nil _ h
  have h2:=(hlaw.1 m.1).1 ⟨m,hm,Int.le_refl _,hlaw.2 m hm⟩
  have h0:0≤m.1∧m.1≤255:=by
   obtain⟨pp,hpp,h3,h4⟩:=h2.1
   have:=hme pp hpp;omega
  refine⟨m.1.toNat,by omega,?_,?_⟩
  ·rw[memB,vp,Bool.true_and,inR_mem,Int.toNat_of_nonneg h0.1];exact h2.1
  ·rw[memB,vq,Bool.true_and,inR_mem,Int.toNat_of_nonneg h0.1];exact h2.2
 ·rintro⟨x,hx,h1,h2⟩ hnil
  rw[memB,vp,Bool.true_and,inR_mem] at h1
  rw[memB,vq,Bool.true_and,inR_mem] at h2
  have:=(hlaw.1 x).2 ⟨h1,h2⟩
  rw[hnil] at this
  exact memR_nil _ this
theorem ref_common_run {e f:PV} {p q:Shp} {P Q:PV} {ps qs:List PV} (hp:HeldShp e p P ps) (hq:HeldShp f q Q qs) (op:ShpOk p) (oq:ShpOk q) {n:Nat} (hn:n≤p.parts.length) (hn2:n≤q.parts.length):
 ∃ v,F_leadtrailref09_Common [e,f,i64 n]=some (.tup [v,.bool (commonR p.parts q.parts n 0).isSome]):=by
 have hc1:=ref_count9_run hp op
 have hc2:=ref_count9_run hq oq
 have hb1:=lastS_bound op
 have hb2:=lastS_bound oq
 obtain⟨hP1,hP2⟩:=hp.Pone
 obtain⟨hQ1,hQ2⟩:=hq.Pone
 have heq:=hp.eq
 have hfq:=hq.eq
 subst heq hfq
 have h8:=op.hi
 have lP:=hp.parts.lenA
 have lQ:=hq.parts.lenA
 have hloop:wpO (fun r=>∃ E H,(r=(.ret,⟨E,H⟩)∧E.get 6= .pv .nils∧E.get 7= .pv (.bool false)∧(commonR p.parts q.parts n 0).isSome=false)∨(∃ nl es,r=(.exit 0,⟨E,H⟩)∧E.get 8= .uq 0 nl 1 es∧(commonR p.parts q.parts n 0).isSome=true))
  (loopA (roundA (evalC (callL (fun _=>none) 8) b_leadtrailref09_Common_l0) (clean 1 [2,3,4,8,9])) rounds ⟨envRC [P,i64 p.first] [Q,i64 q.first] n 0 true [],[.tok 1 0 true]⟩):=by
  refine wpO_mono (loopN_wp (g:=roundA (evalC (callL (fun _=>none) 8) b_leadtrailref09_Common_l0) (clean 1 [2,3,4,8,9]))
   (fun i t=>∃ nl es,t=⟨envRC [P,i64 p.first] [Q,i64 q.first] n i nl es,[.tok 1 i nl]⟩∧es.length=i∧(commonR p.parts q.parts n 0).isSome=(commonR p.parts q.parts (n - i) i).isSome)
   n (by unfold rounds;omega) _ ⟨true,[],rfl,rfl,rfl⟩ ?_ ?_) (fun r h=>h.2)
  ·rintro i t hi ⟨nl,es,rfl,hlen,hs⟩
   have hip:i < p.parts.length:=by omega
   have hiq:i < q.parts.length:=by omega
   have hin:=ref_common_inner (callL (fun _=>none) 8) (a:=i64 p.first) (b:=i64 q.first) (n:=n) hp.parts hq.parts hip hiq nl es i
   have okv:=op.parts _ (List.getElem_mem hip)
   have okw:=oq.parts _ (List.getElem_mem hiq)
   have hma:=meetAt_iff hip hiq okv.2 okw.2
   obtain⟨m,hm⟩:∃ m,n - i=m+1:=⟨n - i - 1,by omega⟩
   have hm':n - (i+1)=m:=by omega
   rw[hm,commonR] at hs
   have e1:decide ((i:Int) < (n:Int))=true:=dec_t (by omega)
   have t2:=stepWrap (i:=i) (n:=n) hi (by unfold maxLen;omega)
   have hz:(0 < 1)=True:=by simp
   have hLN:∀ (nl':Bool) (es':List PV) (s:St),s=⟨envRC [P,i64 p.first] [Q,i64 q.first] n (i+1:Nat) nl' es',[.tok 1 (i+1) nl']⟩→es'.length=i+1→(commonR p.parts q.parts n 0).isSome=(commonR p.parts q.parts m (i+1)).isSome→
    LN (fun i t=>∃ nl es,t=⟨envRC [P,i64 p.first] [Q,i64 q.first] n i nl es,[.tok 1 i nl]⟩∧es.length=i∧(commonR p.parts q.parts n 0).isSome=(commonR p.parts q.parts (n - i) i).isSome)
     (fun r=>∃ E H,(r=(.ret,⟨E,H⟩)∧E.get 6= .pv .nils∧E.get 7= .pv (.bool false)∧(commonR p.parts q.parts n 0).isSome=false)∨(∃ nl es,r=(.exit 0,⟨E,H⟩)∧E.get 8= .uq 0 nl 1 es∧(commonR p.parts q.parts n 0).isSome=true)) i (.norm,s):=
    fun nl' es' s h1 h2 h3=>⟨nl',es',h1,h2,by rw[hm'];exact h3⟩
   have hLR:∀ (E:Tr) (H:List AObj),E.get 6= .pv .nils→E.get 7= .pv (.bool false)→(commonR p.parts q.parts n 0).isSome=false→
    LN (fun i t=>∃ nl es,t=⟨envRC [P,i64 p.first] [Q,i64 q.first] n i nl es,[.tok 1 i nl]⟩∧es.length=i∧(commonR p.parts q.parts n 0).isSome=(commonR p.parts q.parts (n - i) i).isSome)
     (fun r=>∃ E H,(r=(.ret,⟨E,H⟩)∧E.get 6= .pv .nils∧E.get 7= .pv (.bool false)∧(commonR p.parts q.parts n 0).isSome=false)∨(∃ nl es,r=(.exit 0,⟨E,H⟩)∧E.get 8= .uq 0 nl 1 es∧(commonR p.parts q.parts n 0).isSome=true)) i (.ret,⟨E,H⟩):=
    fun E H h1 h2 h3=>⟨E,H,.inl ⟨rfl,h1,h2,h3⟩⟩
   generalize LN _ _ i=QQ at hLN hLR ⊢
   simp (implicitDefEqProofs:=false) only[SP,SA,WP,sevalprocAttr,-List.reduceReplicate,b_leadtrailref09_Common_l0,C_loop,e1,hz,clean,cutEnv,AV.cut,cutObj,deep_eq',envRC]
   refine wpO_mono hin ?_
   rintro r ⟨E,y,rfl,g2,g3,g4,g8,g9,g10,⟨hy,hy1,hy2⟩ | ⟨rfl,hno⟩⟩
   ·have hne:meetAt p.parts q.parts i≠[]:=hma.2 ⟨y,hy,hy1,hy2⟩
    have hs':(commonR p.parts q.parts n 0).isSome=(commonR p.parts q.parts m (i+1)).isSome:=by
     rw[hs]
     cases hmt:meetAt p.parts q.parts i with
     |nil=>exact absurd hmt hne
     |cons a r=>simp
    have e2:(((y:Nat):Int)==256)=false:=beq_ne (by omega)
    have t3:IntKind.u8.wrap ((y:Nat):Int)=(y:Int):=wrap_u8 (by omega)
    have hap:=byte_append (A:=[.tok 1 i nl]) (id:=0) (n:=i) (h:= .uq) (nl:=nl) (bytes:=1) (es:=es) rfl (by simp[hlen]) (by unfold roomOk;omega) (.int .u8 y)
    rw[List.set_cons_zero] at hap
    simp (implicitDefEqProofs:=false) only[SP,WP,setRow,sevalprocAttr,-List.reduceReplicate,g2,g3,g4,g8,g9,g10,e2,t2,t3,hap,hz,clean,cutEnv,AV.cut,cutObj,deep_eq']
    exact hLN false (es++[.int .u8 y]) _ rfl (by simp[hlen]) hs'
   ·have hne:meetAt p.parts q.parts i=[]:=by
     apply Decidable.byContradiction
     intro h
     obtain⟨x,hx,h1,h2⟩:=hma.1 h
     exact hno x hx ⟨h1,h2⟩
    have hs':(commonR p.parts q.parts n 0).isSome=false:=by rw[hs,hne];rfl
    have e2:(((256:Nat):Int)==256)=true:=by decide
    simp (implicitDefEqProofs:=false) only[SP,WP,setRow,sevalprocAttr,-List.reduceReplicate,g2,g3,g4,g8,g9,g10,e2]
    exact hLR _ _ (by simp[Tr.get_set]) (by simp[Tr.get_set]) hs'
  ·rintro t ⟨nl,es,rfl,hlen,hs⟩
   rw[Nat.sub_self,commonR] at hs
   have e1:decide ((n:Int) < (n:Int))=false:=dec_f (by omega)
   generalize hQ:(fun r:Ex×St=>r.1.stop=true∧_)=QQ
   simp (implicitDefEqProofs:=false) only[SP,SA,WP,sevalprocAttr,-List.reduceReplicate,b_leadtrailref09_Common_l0,e1,envRC]
   subst hQ
   exact⟨rfl,_,_,.inr ⟨nl,es,rfl,by simp[Tr.get_set],hs⟩⟩
 have key:wpO (fun r=>∃ v,r= .tup [v,.bool (commonR p.parts q.parts n 0).isSome]) (F_leadtrailref09_Common [.agg [P,i64 p.first],.agg [Q,i64 q.first],i64 n]):=by
  have z1:(lastN 1 p.parts==0)=false:=beq_ne (by omega)
  have z2:(lastN 1 q.parts==0)=false:=beq_ne (by omega)
  have d0:decide ((n:Int) < 0)=false:=dec_f (by omega)
  have d1:decide ((n:Int) > (p.parts.length:Int))=false:=dec_f (by omega)
  have d2:decide ((n:Int) > (q.parts.length:Int))=false:=dec_f (by omega)
  have hz:(0 < 1)=True:=by simp
  generalize lastN 1 p.parts=np at *
  generalize lastN 1 q.parts=nq at *
  generalize (commonR p.parts q.parts n 0).isSome=b at *
  generalize hQQ:(fun r:PV=>_)=QQ
  simp (implicitDefEqProofs:=false) only[F_leadtrailref09_Common,SP,SA,WP,sevalprocAttr,-List.reduceReplicate,b_leadtrailref09_Common,C_loop,hP1,hQ1,rp2_place,rp2_load,rp2_loadA,hc1,hc2,z1,z2,lP,lQ,d0,d1,d2,ghostA,hz,clean,cutEnv,AV.cut,cutObj,deep_eq']
  refine wpO_mono hloop ?_
  rintro _ ⟨E,H,⟨rfl,h6,h7,hb⟩ | ⟨nl,es,rfl,g8,hb⟩⟩
  ·subst hb
   simp (implicitDefEqProofs:=false) only[SP,SA,WP,sevalprocAttr,-List.reduceReplicate,h6,h7]
   subst hQQ
   exact⟨_,rfl⟩
  ·subst hb
   cases nl <;>
   ·simp (implicitDefEqProofs:=false) only[SP,SA,WP,sevalprocAttr,-List.reduceReplicate,g8]
    subst hQQ
    exact⟨_,rfl⟩
 obtain⟨r,h1,v,rfl⟩:=wpO_spec key
 exact⟨v,h1⟩
end Go.AM.B1
namespace Go.AM.B1
open Go.AM Go.AM.So
abbrev envPk (row:List PV) (i:Int):Tr:=(Tr.lf.set 4 (.pv (i64 i))).set 1 (.pv (.rp row 0))
abbrev envPj (row:List PV) (i j:Int):Tr:=((Tr.lf.set 5 (.pv (i64 j))).set 4 (.pv (i64 i))).set 1 (.pv (.rp row 0))
def PreAt (ss:List Shp) (i j:Nat):Prop:=(hi:i < ss.length)→(hj:j < ss.length)→ss[i].parts.length < ss[j].parts.length→meetsB ss[i] ss[j]=false
theorem ref_prefix_inner (call:CallF) {S:PV} {ss:List Shp} {es:List PV} (hS:HeldSch S ss es) (hok:SchOk ss) {i:Nat} (hi:i < ss.length):
 wpO (fun r=>∃ E,(r=(.exit 2,⟨E,[]⟩)∧E.get 1= .pv (.rp [S] 0)∧E.get 4= .pv (i64 i)∧∀ j,PreAt ss i j)∨(r=(.ret,⟨E,[]⟩)∧E.get 2= .pv (.bool false)∧E.get 3= .pv (i64 0)∧¬PreOk ss))
  (loopA (roundA (evalC call b_leadtrailref11_Prefix_l1) (clean 0 [1,4,5])) rounds ⟨envPj [S] i 0,[]⟩):=by
 have h32:=hok.len
 have ln:=hS.lenA
 obtain⟨P,ps,hP,a1⟩:=hS.iaddr hi
 have okp:=hok.shp _ (List.getElem_mem hi)
 have lP:=hP.parts.lenA
 have hPre:∀ j (hj:j < ss.length),ss[i].parts.length < ss[j].parts.length→meetsB ss[i] ss[j]=true→¬PreOk ss:=fun j hj h1 h2 h=>by
  have:=h i j hi hj h1;rw[h2] at this;cases this
 have hat:∀ j,PreAt ss i j↔((hj:j < ss.length)→ss[i].parts.length < ss[j].parts.length→meetsB ss[i] ss[j]=false):=fun j=>⟨fun h=>h hi,fun h _=>h⟩
 simp only[hat]
 generalize ss[i]=p at *
 refine wpO_mono (loopN_wp (g:=roundA (evalC call b_leadtrailref11_Prefix_l1) (clean 0 [1,4,5]))
  (fun j t=>t=⟨envPj [S] i j,[]⟩∧∀ j',j' < j→(hj:j' < ss.length)→p.parts.length < ss[j'].parts.length→meetsB p ss[j']=false)
  ss.length (by unfold rounds;omega) _ ⟨rfl,fun j h=>by omega⟩ ?_ ?_) (fun r h=>h.2)
 ·rintro j t hj ⟨rfl,hs⟩
  obtain⟨Q,qs,hQ,a2⟩:=hS.iaddr hj
  have okq:=hok.shp _ (List.getElem_mem hj)
  have hcm:=fun (h:p.parts.length≤ss[j].parts.length)=>ref_common_run hP hQ okp okq (n:=p.parts.length) (Nat.le_refl _) h
  have lQ:=hQ.parts.lenA
  have hbad:=hPre j hj
  have hnext:(p.parts.length < ss[j].parts.length→meetsB p ss[j]=false)→∀ j',j' < j+1→(hj:j' < ss.length)→p.parts.length < ss[j'].parts.length→meetsB p ss[j']=false:=by
   intro h j' h1 h2
   rcases Nat.lt_or_ge j' j with h3 | h3
   ·exact hs j' h3 h2
   ·have:j'=j:=by omega
    subst this;exact h
  unfold meetsB at hbad hnext
  generalize ss[j]=q at *
  have e1:decide ((j:Int) < (ss.length:Int))=true:=dec_t (by omega)
  have t2:=stepWrap hj (by unfold maxLen;omega)
  generalize hQQ:LN _ _ j=QQ
  by_cases c1:(p.parts.length:Int) < (q.parts.length:Int)
  ·have d1:=dec_t c1
   obtain⟨v,hv⟩:=hcm (by omega)
   cases hb:(commonR p.parts q.parts p.parts.length 0).isSome with
   |true=>
    rw[hb] at hv
    simp (implicitDefEqProofs:=false) only[SP,SA,WP,sevalprocAttr,-List.reduceReplicate,b_leadtrailref11_Prefix_l1,ln,e1,rp1_place,rp1_load,rp2_place,rp2_load,rp2_loadA,a1,a2,lP,lQ,d1,hv,envPj]
    subst hQQ
    exact⟨_,.inr ⟨rfl,by simp[Tr.get_set],by simp[Tr.get_set],hbad (by omega) hb⟩⟩
   |false=>
    rw[hb] at hv
    simp (implicitDefEqProofs:=false) only[SP,SA,WP,sevalprocAttr,-List.reduceReplicate,b_leadtrailref11_Prefix_l1,ln,e1,t2,rp1_place,rp1_load,rp2_place,rp2_load,rp2_loadA,a1,a2,lP,lQ,d1,hv,clean,cutEnv,AV.cut,deep_eq',envPj]
    subst hQQ
    exact⟨rfl,hnext fun _=>hb⟩
  ·have d1:=dec_f c1
   simp (implicitDefEqProofs:=false) only[SP,SA,WP,sevalprocAttr,-List.reduceReplicate,b_leadtrailref11_Prefix_l1,ln,e1,t2,rp1_place,rp1_load,rp2_place,rp2_load,rp2_loadA,a1,a2,lP,lQ,d1,clean,cutEnv,AV.cut,deep_eq',envPj]
   subst hQQ
   exact⟨rfl,hnext fun h=>absurd h (by omega)⟩
 ·rintro t ⟨rfl,hs⟩
  have e1:decide ((ss.length:Int) < (ss.length:Int))=false:=dec_f (by omega)
  generalize hQ:(fun r:Ex×St=>r.1.stop=true∧_)=QQ
  simp (implicitDefEqProofs:=false) only[SP,SA,WP,sevalprocAttr,-List.reduceReplicate,b_leadtrailref11_Prefix_l1,e1,ln,rp1_place,rp1_load,envPj]
  subst hQ
  exact⟨rfl,_,.inl ⟨rfl,by simp[Tr.get_set],by simp[Tr.get_set],fun j hj=>hs j hj hj⟩⟩
theorem ref_prefix_run {S:PV} {ss:List Shp} {es:List PV} (hS:HeldSch S ss es):
 (¬ SchOk ss→F_leadtrailref11_Prefix [.agg [S]]=some (.tup [.bool false,i64 84]))∧
 (SchOk ss→∃ b,F_leadtrailref11_Prefix [.agg [S]]=some (.tup [.bool b,i64 0])∧(b=true↔PreOk ss)):=by
 have ln:=hS.lenA
 have hS1:(AV.pv S).one=true:=by rcases hS.is with⟨h,_⟩ | h <;> rw[h] <;> rfl
 obtain⟨b,hb,hbb⟩:=ref_valid8_run hS
 constructor
 ·intro h
  have:b=false:=by cases b with | false=>rfl | true=>exact absurd (hbb.1 rfl) h
  subst this
  simp (implicitDefEqProofs:=false) only[F_leadtrailref11_Prefix,SP,SA,WP,sevalprocAttr,-List.reduceReplicate,b_leadtrailref11_Prefix,hS1,rp1_loadA,hb]
 ·intro hok
  have h32:=hok.len
  have:=hbb.2 hok
  subst this
  have hloop:wpO (fun r=>∃ E,(r=(.exit 0,⟨E,[]⟩)∧PreOk ss)∨(r=(.ret,⟨E,[]⟩)∧E.get 2= .pv (.bool false)∧E.get 3= .pv (i64 0)∧¬PreOk ss))
   (loopA (roundA (evalC (callL (fun _=>none) 8) b_leadtrailref11_Prefix_l0) (clean 0 [1,4])) rounds ⟨envPk [S] 0,[]⟩):=by
   refine wpO_mono (loopN_wp (g:=roundA (evalC (callL (fun _=>none) 8) b_leadtrailref11_Prefix_l0) (clean 0 [1,4]))
    (fun i t=>t=⟨envPk [S] i,[]⟩∧∀ i',i' < i→∀ j,PreAt ss i' j)
    ss.length (by unfold rounds;omega) _ ⟨rfl,fun i h=>by omega⟩ ?_ ?_) (fun r h=>h.2)
   ·rintro i t hi ⟨rfl,hs⟩
    have hin:=ref_prefix_inner (callL (fun _=>none) 8) hS hok hi
    have e1:decide ((i:Int) < (ss.length:Int))=true:=dec_t (by omega)
    have t2:=stepWrap hi (by unfold maxLen;omega)
    generalize hQQ:LN _ _ i=QQ
    simp (implicitDefEqProofs:=false) only[SP,SA,WP,sevalprocAttr,-List.reduceReplicate,b_leadtrailref11_Prefix_l0,C_loop,ln,e1,rp1_place,rp1_load,clean,cutEnv,AV.cut,deep_eq',envPk]
    refine wpO_mono hin ?_
    rintro _ ⟨E,⟨rfl,g1,g4,hp⟩ | ⟨rfl,g2,g3,hp⟩⟩
    ·simp (implicitDefEqProofs:=false) only[SP,SA,WP,sevalprocAttr,-List.reduceReplicate,g1,g4,t2,clean,cutEnv,AV.cut,deep_eq']
     subst hQQ
     refine⟨rfl,fun i' hi' j=> ?_⟩
     rcases Nat.lt_or_ge i' i with h3 | h3
     ·exact hs i' h3 j
     ·have:i'=i:=by omega
      subst this;exact hp j
    ·simp (implicitDefEqProofs:=false) only[SP,SA,WP,sevalprocAttr,-List.reduceReplicate]
     subst hQQ
     exact⟨_,.inr ⟨rfl,g2,g3,hp⟩⟩
   ·rintro t ⟨rfl,hs⟩
    have e1:decide ((ss.length:Int) < (ss.length:Int))=false:=dec_f (by omega)
    generalize hQ:(fun r:Ex×St=>r.1.stop=true∧_)=QQ
    simp (implicitDefEqProofs:=false) only[SP,SA,WP,sevalprocAttr,-List.reduceReplicate,b_leadtrailref11_Prefix_l0,e1,ln,rp1_place,rp1_load,envPk]
    subst hQ
    exact⟨rfl,_,.inl ⟨rfl,fun i j hi hj=>hs i hi j hi hj⟩⟩
  have key:wpO (fun r=>∃ b,r=PV.tup [.bool b,i64 0]∧(b=true↔PreOk ss)) (F_leadtrailref11_Prefix [.agg [S]]):=by
   generalize hQQ:(fun r:PV=>_)=QQ
   simp (implicitDefEqProofs:=false) only[F_leadtrailref11_Prefix,SP,SA,WP,sevalprocAttr,-List.reduceReplicate,b_leadtrailref11_Prefix,hS1,rp1_place,rp1_load,rp1_loadA,hb,C_loop,clean,cutEnv,AV.cut,deep_eq']
   refine wpO_mono hloop ?_
   rintro _ ⟨E,⟨rfl,hp⟩ | ⟨rfl,g2,g3,hp⟩⟩
   ·simp (implicitDefEqProofs:=false) only[SP,SA,WP,sevalprocAttr,-List.reduceReplicate]
    subst hQQ
    exact⟨true,rfl,by simpa using hp⟩
   ·simp (implicitDefEqProofs:=false) only[SP,SA,WP,sevalprocAttr,-List.reduceReplicate,g2,g3]
    subst hQQ
    exact⟨false,rfl,by simpa using hp⟩
  obtain⟨r,h1,b,rfl,hb⟩:=wpO_spec key
  exact⟨b,h1,hb⟩
end Go.AM.B1
