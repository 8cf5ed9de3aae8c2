/- What functions of the program compute. -/
import Derived.Test.YtdglpnpkgngcdaaGreatQ6
set_option linter.unusedVariables false
set_option linter.unusedSimpArgs false
namespace Go.AM.B1
open Go.AM Go.AM.So
abbrev mb (es:List PV):ba:= .box (es.map .pv)
theorem Xh {A:List ba} {id:Nat} {es:List PV} (hg:A[id]? =some (mb es)) (o d:Nat):place A d (.ptr id o)=some (.ptr id (o+d)):=by
 simp only[place,hg]
theorem Et {A:List ba} {id:Nat} {es:List PV} (hg:A[id]? =some (mb es)) {k:Nat} {e:PV} (hk:es[k]? =some e):ya A false 1 (.ptr id k)=some (.pv e):=by
 simp only[ya,hg,lh,Bool.false_eq_true,if_false,List.getElem?_map,hk,Option.map_some]
theorem qx {A:List ba} {id:Nat} {es:List PV} (hg:A[id]? =some (mb es)) {k:Nat} (hk:k < es.length) {e:PV} (hc:e.cells=[e]) (h1:(AV.pv e).one=true):Ra A 1 (.ptr id k) (.pv e)=some (A.set id (mb (es.set k e))):=by
 have hc':(AV.pv e).cells=[.pv e]:=by simp[AV.cells,hc]
 simp only[Ra,hg,hc']
 rw[if_pos ⟨rfl,by simp[h1]⟩,if_pos (by simp;omega),na,na]
 show _=some (A.set id (.box ((es.set k e).map .pv)))
 rw[List.map_set]
theorem uf:∀ (es:List PV),nf (es.map .pv)=some es
 | []=>rfl
 |e::es=>by rw[List.map_cons,nf,uf es];rfl
theorem wm {A:List ba} {id n:Nat} {es:List PV} (hg:A[id]? =some (mb es)) (hn:es.length=n):ya A true n (.ptr id 0)=some (.pv (.agg es)):=by
 simp only[ya,hg,lh,if_true]
 rw[if_pos (by simp;omega)]
 have:List.take n (List.drop 0 (es.map AV.pv))=es.map AV.pv:=by rw[List.drop_zero,List.take_of_length_le (by simp;omega)]
 rw[this,Xq,uf]
theorem Yu {α:Type}:∀ (vs cs pre:List α),cs.length=vs.length→na (pre++cs) pre.length vs=pre++vs
 | [],cs,pre,h=>by cases cs with | nil=>rfl | cons=>simp at h
 |v::vs,cs,pre,h=>by
  cases cs with
  |nil=>simp at h
  |cons c cs=>
   have:(pre++c::cs).set pre.length v=(pre++[v])++cs:=by simp
   rw[na,this]
   have h2:=Yu vs cs (pre++[v]) (by simpa using h)
   simp only[List.length_append,List.length_singleton] at h2
   rw[h2];simp
theorem ml {A:List ba} {id n:Nat} {es fs:List PV} (hg:A[id]? =some (mb es)) (hn:es.length=n) (hf:fs.length=n) (h1:∀ e∈fs,(AV.pv e).one=true):Ra A n (.ptr id 0) (.pv (.agg fs))=some (A.set id (mb fs)):=by
 have hc':(AV.pv (.agg fs)).cells=fs.map .pv:=rfl
 simp only[Ra,hg,hc']
 rw[if_pos ⟨by simp[hf],by rw[List.all_eq_true];intro v hv;obtain⟨e,he,rfl⟩:=List.mem_map.1 hv;exact h1 e he⟩,if_pos (by simp;omega)]
 have:=Yu (fs.map AV.pv) (es.map AV.pv) [] (by simp;omega)
 simp only[List.nil_append,List.length_nil] at this
 rw[this]
theorem Vg (es:List PV) (n:Nat):ma n (mb es)=some (mb es):=by
 have:Qa (AV.cut n deep) (es.map AV.pv)=some (es.map AV.pv):=by
  refine Gl ?_
  intro v hv
  obtain⟨e,_,rfl⟩:=List.mem_map.1 hv
  exact Ia
 simp only[ma,this,Option.map_some]
def bu (l:List (Int×Int)) (i:Nat):Int:=match i with
 |0=> -2
 |k+1=>match l[k]? with | some p=>p.2 | none=> -2
abbrev tz (v:PV) (i:Int):Tr:=(Tr.lf.set 3 (.pv (i64 i))).set 0 (.pv v)
theorem Tx {v:PV} {l:List (Int×Int)} (hv:Di 2 v (de l)) (hw:l.length * 16≤140737488355328):eg [v]=some (.bool (Oa 255 (-2) l)):=by
 have hloop:Td (fun r=>∃ E,(r=(.exit 0,⟨E,[]⟩)∧Oa 255 (-2) l=true)∨(r=(.ret,⟨E,[]⟩)∧E.get 2= .pv (.bool false)∧Oa 255 (-2) l=false))
  (gb (fa (ta (Ga (fun _=>none) 8) Kb) (ga 0 [0,3])) oa ⟨tz v 0,[]⟩):=by
  refine xa (Nb (g:=fa (ta (Ga (fun _=>none) 8) Kb) (ga 0 [0,3]))
   (fun i t=>t=⟨tz v i,[]⟩∧ -2≤bu l i∧bu l i≤255∧Oa 255 (-2) l=Oa 255 (bu l i) (l.drop i))
   l.length (by unfold oa;omega) _ ⟨rfl,Int.le_refl _,by show (-2:Int)≤255;decide,rfl⟩ ?_ ?_) (fun r h=>h.2)
  ·rintro i t hi ⟨rfl,hlz,hla,hs⟩
   have hl:=hv.lit (i:=i) (by simpa using hi)
   subst hl
   have hd:l.drop i=l[i]::l.drop (i+1):=List.drop_eq_getElem_cons hi
   have hnext:bu l (i+1)=l[i].2:=by simp[bu,hi]
   have a1:=ll [] hi
   have hprev:0 < i→∃ a b,bu l i=b∧IntKind.i64.wrap ((i:Int) - 1)=((i - 1:Nat):Int)∧qa [] 2 (.pv (.lit 2 (de l))) ((i - 1:Nat):Int)=some (.pv (.rp [i64 a,i64 b] 0)):=by
    intro h0
    have hi1:i - 1 < l.length:=by omega
    refine⟨l[i - 1].1,l[i - 1].2,?_,?_,ll [] hi1⟩
    ·obtain⟨k,rfl⟩:∃ k,i=k+1:=⟨i - 1,by omega⟩
     simp[bu,show k < l.length by omega]
    ·rw[show (i:Int) - 1=((i - 1:Nat):Int) by omega]
     exact Ba (by omega)
   have e1:decide ((i:Int) < (l.length:Int))=true:=Da (by omega)
   have t2:=Ua hi (by unfold maxLen;omega)
   have ln:=Di.len (sz:=2) (v:= .lit 2 (de l)) (es:=de l) (.inr rfl) []
   have lp:(de l).length=l.length:=by simp[de]
   rw[lp] at ln
   rw[hd,Oa] at hs
   have l0:∀ a b:PV,ya [] false 1 (.pv (.rp [a,b] 0))=some (.pv a):=fun a b=>rfl
   have l1:∀ a b:PV,ya [] false 1 (.pv (.rp [a,b] 1))=some (.pv b):=fun a b=>rfl
   have p0:∀ a b:PV,place [] 0 (.pv (.rp [a,b] 0))=some (.pv (.rp [a,b] 0)):=fun a b=>rfl
   have p1:∀ a b:PV,place [] 1 (.pv (.rp [a,b] 0))=some (.pv (.rp [a,b] 1)):=fun a b=>rfl
   generalize l[i]=p at *
   generalize hV:Oa 255 p.2 (l.drop (i+1))=V at *
   generalize de l=es at *
   generalize hQ:LN _ _ i=Q
   by_cases c1:p.1 < 0
   ·have d1:=Da c1
    simp -implicitDefEqProofs only[SX,sevalprocAttr,-List.reduceReplicate,Kb,e1,ln,a1,l0,l1,p0,p1,d1,tz]
    subst hQ
    rw[d1] at hs
    exact⟨_,.inr ⟨rfl,by simp[Tr.aa],by simpa using hs⟩⟩
   have d1:=Ha c1
   by_cases c2:p.1 > p.2
   ·have d2:=Da c2
    simp -implicitDefEqProofs only[SX,sevalprocAttr,-List.reduceReplicate,Kb,e1,ln,a1,l0,l1,p0,p1,d1,d2,tz]
    subst hQ
    rw[d2] at hs
    exact⟨_,.inr ⟨rfl,by simp[Tr.aa],by simpa using hs⟩⟩
   have d2:=Ha c2
   by_cases c3:p.2 > 255
   ·have d3:=Da c3
    simp -implicitDefEqProofs only[SX,sevalprocAttr,-List.reduceReplicate,Kb,e1,ln,a1,l0,l1,p0,p1,d1,d2,d3,tz]
    subst hQ
    rw[d3] at hs
    exact⟨_,.inr ⟨rfl,by simp[Tr.aa],by simpa using hs⟩⟩
   have d3:=Ha c3
   have hs3:∀ b,decide (p.1 - 1≤bu l i)=b→Oa 255 (-2) l=(!b&&V):=by
    intro b hb
    rw[hs,d1,d2,d3,hb];simp
   by_cases h0:0 < i
   ·obtain⟨a,b,hb,t3,a2⟩:=hprev h0
    have e0:decide ((i:Int) > 0)=true:=Da (by omega)
    rw[hb] at hla hlz hs3
    have t5:IntKind.i64.wrap (b+1)=b+1:=Ba (by omega)
    by_cases c4:p.1≤b+1
    ·have d4:=Da c4
     have hlow:Oa 255 (-2) l=false:=by
      rw[hs3 true (Da (by omega))];rfl
     simp -implicitDefEqProofs only[SX,sevalprocAttr,-List.reduceReplicate,Kb,e1,ln,a1,l0,l1,p0,p1,d1,d2,d3,e0,t3,t5,a2,d4,tz]
     subst hQ
     exact⟨_,.inr ⟨rfl,by simp[Tr.aa],hlow⟩⟩
    ·have d4:=Ha c4
     simp -implicitDefEqProofs only[SX,sevalprocAttr,-List.reduceReplicate,Kb,e1,ln,a1,l0,l1,p0,p1,d1,d2,d3,e0,t2,t3,t5,a2,d4,ga,za,AV.cut,wa,tz]
     subst hQ
     refine⟨rfl,by omega,by omega,?_⟩
     rw[hnext,hV,hs3 false (Ha (by omega))];rfl
   ·have e0:decide ((i:Int) > 0)=false:=Ha (by omega)
    have hi0:bu l i= -2:=by
     have:i=0:=by omega
     subst this;rfl
    simp -implicitDefEqProofs only[SX,sevalprocAttr,-List.reduceReplicate,Kb,e1,ln,a1,l0,l1,p0,p1,d1,d2,d3,e0,t2,ga,za,AV.cut,wa,tz]
    subst hQ
    refine⟨rfl,by omega,by omega,?_⟩
    rw[hnext,hV,hs3 false (Ha (by omega))];rfl
  ·rintro t ⟨rfl,hlz,hla,hs⟩
   rw[List.drop_length,Oa] at hs
   have ln:=hv.len []
   rw[show (de l).length=l.length by simp[de]] at ln
   have e1:decide ((l.length:Int) < (l.length:Int))=false:=Ha (by omega)
   generalize hQ:(fun r:Ex×St=>r.1.stop=true∧_)=Q
   simp -implicitDefEqProofs only[SX,sevalprocAttr,-List.reduceReplicate,Kb,e1,ln,tz]
   subst hQ
   exact⟨rfl,_,.inl ⟨rfl,hs⟩⟩
 apply Lk
 simp -implicitDefEqProofs only[eg,SX,sevalprocAttr,-List.reduceReplicate,Gj,xb,ga,za,AV.cut,wa]
 refine xa hloop ?_
 rintro _ ⟨E,⟨rfl,hb⟩ | ⟨rfl,hE,hb⟩⟩
 ·simp -implicitDefEqProofs only[SX,sevalprocAttr,-List.reduceReplicate,hb]
 ·simp -implicitDefEqProofs only[SX,sevalprocAttr,-List.reduceReplicate,hE,hb]
def ae (f:Nat→Bool):List PV:=(List.range 256).map fun x=> .bool (f x)
theorem Dk (f:Nat→Bool):(ae f).length=256:=by simp[ae]
theorem Yz (f:Nat→Bool) {x:Nat} (h:x < 256):(ae f)[x]? =some (.bool (f x)):=by simp[ae,h]
theorem tL (f:Nat→Bool) {x:Nat} (h:x < (ae f).length):(ae f)[x]= .bool (f x):=by
 simp only[ae,List.getElem_map,List.getElem_range]
theorem fV (f:Nat→Bool) {x:Nat} (h:x < 256) (b:Bool):(ae f).set x (.bool b)=ae fun y=>if y=x then b else f y:=by
 apply List.ext_getElem
 ·rw[List.length_set,Dk,Dk]
 ·intro j h1 h2
  rw[List.getElem_set,tL,tL]
  by_cases hj:x=j
  ·subst hj;rw[if_pos rfl,if_pos rfl]
  ·rw[if_neg hj,if_neg (Ne.symm hj)]
theorem Zs {f g:Nat→Bool} (h:∀ x,x < 256→f x=g x):ae f=ae g:=by
 unfold ae
 apply List.map_congr_left
 intro x hx
 rw[h x (by simpa using hx)]
theorem Rs:List.replicate 256 (PV.bool false)=ae fun _=>false:=by
 apply List.ext_getElem
 ·rw[List.length_replicate,Dk]
 ·intro j h1 h2;rw[List.getElem_replicate,tL]
theorem BC (f:Nat→Bool):∀ e∈ae f,(AV.pv e).one=true:=by
 intro e he
 obtain⟨x,_,rfl⟩:=List.mem_map.1 he
 rfl
def Wp (l:List (Int×Int)) (x:Nat):Bool:=l.any fun p=>decide (p.1≤(x:Int))&&decide ((x:Int)≤p.2)
theorem Pp {l:List (Int×Int)} {x:Nat}:Wp l x=true↔Xj (x:Int) l:=by
 unfold Wp Xj;simp
abbrev eO (v:PV) (i y:Int):Tr:=((((Tr.lf.set 5 (.pv (i64 y))).set 4 (.pv (i64 i))).set 3 (.ptr 1 0)).set 2 (.ptr 0 0)).set 0 (.pv v)
abbrev TB (v:PV) (i:Int):Tr:=(((Tr.lf.set 4 (.pv (i64 i))).set 3 (.ptr 1 0)).set 2 (.ptr 0 0)).set 0 (.pv v)
theorem AF (call:Za) {v:PV} {l:List (Int×Int)} (hv:Di 2 v (de l)) {i:Nat} (hi:i < l.length) (hp:0≤l[i].1∧l[i].1≤l[i].2∧l[i].2≤255) (Z:List PV):
 Td (fun r=>∃ E,r=(.exit 2,⟨E,[mb Z,mb (ae (Wp (l.take (i+1))))]⟩)∧E.get 0= .pv v∧E.get 2= .ptr 0 0∧E.get 3= .ptr 1 0∧E.get 4= .pv (i64 i))
  (gb (fa (ta call xe) (ga 2 [0,2,3,4,5])) oa ⟨eO v i l[i].1,[mb Z,mb (ae (Wp (l.take i)))]⟩):=by
 have hl:=hv.lit (i:=i) (by simpa using hi)
 subst hl
 have a1:=fun A=>ll A hi
 have htk:∀ x,Wp (l.take (i+1)) x=(Wp (l.take i) x||(decide (l[i].1≤(x:Int))&&decide ((x:Int)≤l[i].2))):=by
  intro x
  have:l.take (i+1)=l.take i++[l[i]]:=by simp
  rw[this];simp only[Wp,List.any_append,List.any_cons,List.any_nil,Bool.or_false]
 have l1:∀ (A:List ba) (a b:PV),ya A false 1 (.pv (.rp [a,b] 1))=some (.pv b):=fun A a b=>rfl
 have p1:∀ (A:List ba) (a b:PV),place A 1 (.pv (.rp [a,b] 0))=some (.pv (.rp [a,b] 1)):=fun A a b=>rfl
 generalize l[i]=p at *
 generalize hes:de l=es at *
 generalize hf:Wp (l.take i)=f at *
 have hlen:∀ f,(ae f).length=256:=Dk
 refine xa (Nb (g:=fa (ta call xe) (ga 2 [0,2,3,4,5]))
  (fun k t=>t=⟨eO (.lit 2 es) i (p.1+k),[mb Z,mb (ae fun x=>f x||(decide (p.1≤(x:Int))&&decide ((x:Int) < p.1+k)))]⟩)
  (p.2+1 - p.1).toNat (by unfold oa;omega) _ ?_ ?_ ?_) (fun r h=>h.2)
 ·have:(ae fun x=>f x||(decide (p.1≤(x:Int))&&decide ((x:Int) < p.1+(0:Nat))))=ae f:=by
   refine Zs fun x hx=> ?_
   have:(decide (p.1≤(x:Int))&&decide ((x:Int) < p.1+(0:Nat)))=false:=by
    rw[Bool.and_eq_false_iff]
    by_cases h:p.1≤(x:Int)
    ·exact .inr (Ha (by omega))
    ·exact .inl (Ha h)
   rw[this,Bool.or_false]
  rw[this,show p.1+((0:Nat):Int)=p.1 by omega]
 ·rintro k t hk rfl
  obtain⟨y,hy⟩:∃ y:Nat,p.1+(k:Int)=y:=⟨(p.1+k).toNat,by omega⟩
  have hy256:y < 256:=by omega
  have e1:decide ((y:Int)≤p.2)=true:=Da (by omega)
  have hq:Fa (y:Int) 256:=by unfold Fa;omega
  have t1:((y:Int)).toNat=y:=by simp
  have m1:y * 1=y:=by omega
  have z1:0+y=y:=by omega
  have t2:IntKind.i64.wrap ((y:Int)+1)=((y+1:Nat):Int):=Ba (by omega)
  rw[hy]
  have hnew:(ae fun x=>f x||(decide (p.1≤(x:Int))&&decide ((x:Int) < (y:Int)))).set y (.bool true)=ae fun x=>f x||(decide (p.1≤(x:Int))&&decide ((x:Int) < p.1+(k+1:Nat))):=by
   rw[fV _ hy256]
   refine Zs fun x hx=> ?_
   by_cases hxy:x=y
   ·have h1:p.1≤(x:Int):=by omega
    have h2:(x:Int) < p.1+(k+1:Nat):=by omega
    rw[if_pos hxy,Da h1,Da h2];simp
   ·have:((x:Int) < (y:Int))=((x:Int) < p.1+(k+1:Nat)):=by apply propext;omega
    rw[if_neg hxy];simp only[this]
  have hl1:=hlen fun x=>f x||(decide (p.1≤(x:Int))&&decide ((x:Int) < (y:Int)))
  generalize hT:(ae fun x=>f x||(decide (p.1≤(x:Int))&&decide ((x:Int) < (y:Int))))=T at *
  have pl:=Xh (A:=[mb Z,mb T]) (id:=1) (es:=T) rfl 0 y
  have st:=qx (A:=[mb Z,mb T]) (id:=1) (es:=T) rfl (k:=y) (by omega) (e:= .bool true) rfl rfl
  rw[hnew] at st
  rw[z1] at pl
  have st2:([mb Z,mb T]:List ba).set 1 (mb (ae fun x=>f x||(decide (p.1≤(x:Int))&&decide ((x:Int) < p.1+(k+1:Nat)))))=[mb Z,mb (ae fun x=>f x||(decide (p.1≤(x:Int))&&decide ((x:Int) < p.1+(k+1:Nat))))]:=rfl
  rw[st2] at st
  have c1:=Vg Z 2
  have c2:=Vg (ae fun x=>f x||(decide (p.1≤(x:Int))&&decide ((x:Int) < p.1+(k+1:Nat)))) 2
  have hfin:p.1+((k+1:Nat):Int)=((y+1:Nat):Int):=by omega
  generalize hT':(ae fun x=>f x||(decide (p.1≤(x:Int))&&decide ((x:Int) < p.1+(k+1:Nat))))=T' at *
  have hcl:Qa (ma 2) [mb Z,mb T']=some [mb Z,mb T']:=by simp[Qa,c1,c2]
  have htk2:([mb Z,mb T']:List ba).take 2=[mb Z,mb T']:=rfl
  generalize mb Z=oz at *
  generalize mb T=ot at *
  generalize hot:mb T'=ot' at *
  have d0:(0 < 2)=True:=by simp
  have d1:(1 < 2)=True:=by simp
  generalize hQ:LN _ _ k=Q
  simp -implicitDefEqProofs only[SX,sevalprocAttr,-List.reduceReplicate,xe,e1,a1,l1,p1,eq_true hq,t1,m1,pl,st,t2,hcl,htk2,d0,d1,ga,za,AV.cut,wa,eO]
  subst hQ
  show (_:St)=_
  rw[hT',hot,hfin]
 ·rintro t rfl
  have e1:decide (p.1+((p.2+1 - p.1).toNat:Int)≤p.2)=false:=Ha (by omega)
  have hfin:(ae fun x=>f x||(decide (p.1≤(x:Int))&&decide ((x:Int) < p.1+((p.2+1 - p.1).toNat:Int))))=ae (Wp (l.take (i+1))):=by
   refine Zs fun x hx=> ?_
   have:((x:Int) < p.1+((p.2+1 - p.1).toNat:Int))=((x:Int)≤p.2):=by apply propext;omega
   rw[htk];simp only[this]
  rw[hfin]
  generalize mb (ae (Wp (l.take (i+1))))=ot
  generalize mb Z=oz
  generalize hQ:(fun r:Ex×St=>r.1.stop=true∧_)=Q
  simp -implicitDefEqProofs only[SX,sevalprocAttr,-List.reduceReplicate,xe,e1,a1,l1,p1,eO]
  subst hQ
  exact⟨rfl,_,rfl,by simp[Tr.aa],by simp[Tr.aa],by simp[Tr.aa],by simp[Tr.aa]⟩
theorem an {l:List (Int×Int)} {last:Int} (h:Oa 255 last l=true):∀ p∈l,0≤p.1∧p.1≤p.2∧p.2≤255:=by
 induction l generalizing last with
 |nil=>intro p hp;cases hp
 |cons q l ih=>
  simp only[Oa,Bool.and_eq_true,Bool.not_eq_true',Bool.or_eq_false_iff,decide_eq_false_iff_not] at h
  intro p hp
  rcases List.mem_cons.1 hp with rfl | hp
  ·omega
  ·exact ih h.2 p hp
def Uf (l:List (Int×Int)) (x:Nat):Bool:=Oa 255 (-2) l&&Wp l x
theorem wo {v:PV} {l:List (Int×Int)} (hv:Di 2 v (de l)) (hw:l.length * 16≤140737488355328):pc [v]=some (.agg (ae (Uf l))):=by
 have hvr:=Tx hv hw
 have hz:([]++[ba.box (List.map AV.pv (List.replicate 256 (PV.bool false)))]++[ba.box (List.map AV.pv (List.replicate 256 (PV.bool false)))]:List ba)=[mb (ae fun _=>false),mb (ae fun _=>false)]:=by rw[Rs];rfl
 have hz1:ba.box (List.map AV.pv (List.replicate 256 (PV.bool false)))=mb (ae fun _=>false):=by rw[Rs]
 have hone:∀ f,ya [mb (ae fun _=>false),mb (ae f)] true 256 (.ptr 1 0)=some (.pv (.agg (ae f))):=fun f=>wm (id:=1) rfl (Dk f)
 have hst:∀ f,Ra [mb (ae fun _=>false),mb (ae f)] 256 (.ptr 0 0) (.pv (.agg (ae f)))=some [mb (ae f),mb (ae f)]:=fun f=>ml (id:=0) rfl (Dk _) (Dk f) (BC f)
 have hl2:∀ f,ya [mb (ae f),mb (ae f)] true 256 (.ptr 0 0)=some (.pv (.agg (ae f))):=fun f=>wm (id:=0) rfl (Dk f)
 by_cases Aa:Oa 255 (-2) l=true
 ·rw[Aa] at hvr
  have hfin:ae (Uf l)=ae (Wp l):=Zs fun x _=>by rw[Uf,Aa,Bool.true_and]
  rw[hfin]
  have hpc:=an Aa
  have hloop:Td (fun r=>∃ E,r=(.exit 0,⟨E,[mb (ae fun _=>false),mb (ae (Wp l))]⟩)∧E.get 2= .ptr 0 0∧E.get 3= .ptr 1 0)
   (gb (fa (ta (Ga (fun _=>none) 8) ve) (ga 2 [0,2,3,4])) oa ⟨TB v 0,[mb (ae fun _=>false),mb (ae fun _=>false)]⟩):=by
   refine xa (Nb (g:=fa (ta (Ga (fun _=>none) 8) ve) (ga 2 [0,2,3,4]))
    (fun i t=>t=⟨TB v i,[mb (ae fun _=>false),mb (ae (Wp (l.take i)))]⟩)
    l.length (by unfold oa;omega) _ rfl ?_ ?_) (fun r h=>h.2)
   ·rintro i t hi rfl
    have hin:=AF (Ga (fun _=>none) 8) hv hi (hpc _ (List.getElem_mem hi)) (ae fun _=>false)
    have a1:=fun A=>ll A hi
    have ln:=hv.len
    have hl:=hv.lit (i:=i) (by simpa using hi)
    subst hl
    have lp:(de l).length=l.length:=by simp[de]
    simp only[lp] at ln
    have l0:∀ (A:List ba) (a b:PV),ya A false 1 (.pv (.rp [a,b] 0))=some (.pv a):=fun A a b=>rfl
    have p0:∀ (A:List ba) (a b:PV),place A 0 (.pv (.rp [a,b] 0))=some (.pv (.rp [a,b] 0)):=fun A a b=>rfl
    have e1:decide ((i:Int) < (l.length:Int))=true:=Da (by omega)
    have t2:=Ua hi (by unfold maxLen;omega)
    have hcl:∀ f g,Qa (ma 2) [mb (ae f),mb (ae g)]=some [mb (ae f),mb (ae g)]:=fun f g=>by
     have c1:=Vg (ae f) 2
     have c2:=Vg (ae g) 2
     simp only[Qa,c1,c2,Option.bind_some,Option.map_some]
    have hcl1:=hcl (fun _=>false) (Wp (l.take i))
    have hcl2:=hcl (fun _=>false) (Wp (l.take (i+1)))
    have htk2:∀ a b:ba,([a,b]:List ba).take 2=[a,b]:=fun a b=>rfl
    generalize l[i]=p at *
    generalize hes:de l=es at *
    have hI:⟨TB (.lit 2 es) (i+1:Nat),[mb (ae fun _=>false),mb (ae (Wp (l.take (i+1))))]⟩=(⟨TB (.lit 2 es) (i+1:Nat),[mb (ae fun _=>false),mb (ae (Wp (l.take (i+1))))]⟩:St):=rfl
    have hLN:∀ s:St,s=⟨TB (.lit 2 es) (i+1:Nat),[mb (ae fun _=>false),mb (ae (Wp (l.take (i+1))))]⟩→LN (fun i t=>t=⟨TB (.lit 2 es) i,[mb (ae fun _=>false),mb (ae (Wp (l.take i)))]⟩) (fun r=>∃ E,r=(.exit 0,⟨E,[mb (ae fun _=>false),mb (ae (Wp l))]⟩)∧E.get 2= .ptr 0 0∧E.get 3= .ptr 1 0) i (.norm,s):=fun s h=>h
    generalize mb (ae fun _=>false)=oz at *
    generalize mb (ae (Wp (l.take i)))=ot at *
    generalize mb (ae (Wp (l.take (i+1))))=ot' at *
    have d0:(0 < 2)=True:=by simp
    have d1:(1 < 2)=True:=by simp
    generalize hQ:LN _ _ i=Q at hLN ⊢
    simp -implicitDefEqProofs only[SX,sevalprocAttr,-List.reduceReplicate,ve,xb,e1,ln,a1,l0,p0,hcl1,htk2,d0,d1,ga,za,AV.cut,wa,TB]
    refine xa hin ?_
    rintro r ⟨E,rfl,g0,g2,g3,g4⟩
    simp -implicitDefEqProofs only[SX,sevalprocAttr,-List.reduceReplicate,g0,g2,g3,g4,t2,hcl2,htk2,d0,d1,ga,za,AV.cut,wa]
    exact hLN _ rfl
   ·rintro t rfl
    rw[List.take_length]
    have ln:=hv.len
    simp only[show (de l).length=l.length by simp[de]] at ln
    have e1:decide ((l.length:Int) < (l.length:Int))=false:=Ha (by omega)
    generalize mb (ae (Wp l))=ot
    generalize mb (ae fun _=>false)=oz
    generalize hQ:(fun r:Ex×St=>r.1.stop=true∧_)=Q
    simp -implicitDefEqProofs only[SX,sevalprocAttr,-List.reduceReplicate,ve,e1,ln,TB]
    subst hQ
    exact⟨rfl,_,rfl,by simp[Tr.aa],by simp[Tr.aa]⟩
  have hcl:Qa (ma 2) [mb (ae fun _=>false),mb (ae fun _=>false)]=some [mb (ae fun _=>false),mb (ae fun _=>false)]:=by
   have c1:=Vg (ae fun _=>false) 2
   simp only[Qa,c1,Option.bind_some,Option.map_some]
  have htk2:∀ a b:ba,([a,b]:List ba).take 2=[a,b]:=fun a b=>rfl
  have hst1:=hst (Wp l)
  have hone1:=hone (Wp l)
  have hl21:=hl2 (Wp l)
  have d0:(0 < 2)=True:=by simp
  have d1:(1 < 2)=True:=by simp
  generalize hzs:List.replicate 256 (PV.bool false)=zs at *
  generalize mb (ae fun _=>false)=oz at *
  generalize mb (ae (Wp l))=ot at *
  generalize ae (Wp l)=T at *
  apply Lk
  simp -implicitDefEqProofs only[pc,SX,sevalprocAttr,-List.reduceReplicate,Ug,hzs,hz1,xb,hvr,hcl,htk2,d0,d1,ga,za,AV.cut,wa]
  refine xa hloop ?_
  rintro r ⟨E,rfl,g2,g3⟩
  simp -implicitDefEqProofs only[SX,sevalprocAttr,-List.reduceReplicate,g2,g3,hone1,hst1,hl21]
 ·have hok':Oa 255 (-2) l=false:=by simpa using Aa
  rw[hok'] at hvr
  have hfin:ae (Uf l)=ae fun _=>false:=Zs fun x _=>by rw[Uf,hok',Bool.false_and]
  rw[hfin]
  have hst1:=hst fun _=>false
  have hone1:=hone fun _=>false
  have hl21:=hl2 fun _=>false
  generalize hzs:List.replicate 256 (PV.bool false)=zs at *
  generalize mb (ae fun _=>false)=oz at *
  generalize ae (fun _=>false)=T at *
  apply Lk
  simp -implicitDefEqProofs only[pc,SX,sevalprocAttr,-List.reduceReplicate,Ug,hzs,hz1,hvr,hone1,hst1,hl21]
end Go.AM.B1
namespace Go.AM.B1
open Go.AM Go.AM.So
def fh (f:Nat→Bool) (n:Nat):Nat:=(List.range n).countP f
theorem VP (f:Nat→Bool):fh f 0=0:=rfl
theorem vl (f:Nat→Bool) (n:Nat):fh f (n+1)=fh f n+if f n then 1 else 0:=by
 unfold fh
 rw[List.range_succ,List.countP_append]
 simp[List.countP_cons]
theorem tH (f:Nat→Bool) (n:Nat):fh f n≤n:=by
 have:=List.countP_le_length (p:=f) (l:=List.range n)
 simpa[fh] using this
theorem mN {f g h:Nat→Bool} (n:Nat) (hf:∀ x,x < n→f x=(g x||h x)) (hd:∀ x,x < n→g x=true→h x=true→False):fh f n=fh g n+fh h n:=by
 induction n with
 |zero=>rfl
 |succ n ih=>
  rw[vl,vl,vl,ih (fun x hx=>hf x (by omega)) (fun x hx=>hd x (by omega)),hf n (by omega)]
  have:=hd n (by omega)
  cases h1:g n <;> cases h2:h n <;> simp_all <;> omega
theorem pO (a b:Nat) (n:Nat):fh (fun x=>decide (a≤x)&&decide (x < b)) n=min n b - min a (min n b):=by
 induction n with
 |zero=>simp[VP]
 |succ n ih=>
  rw[vl,ih]
  by_cases h:a≤n∧n < b
  ·rw[if_pos (by simp[h])];omega
  ·rw[if_neg (by simpa using fun h1=>Nat.le_of_not_lt fun h2=>h ⟨h1,h2⟩)];omega
theorem VG:∀ (l:List (Int×Int)) (last n:Int),Oa 255 last l=true→Sb n l=n+fh (Wp l) 256
 | [],_,n,_=>by
   have:fh (Wp []) 256=0:=by
    unfold fh;rw[List.countP_eq_zero];intro x _;simp[Wp]
   rw[this];simp[Sb]
 |p::l,last,n,h=>by
  have hp:=an h p (by simp)
  have h2:=h
  simp only[Oa,Bool.and_eq_true] at h2
  rw[Sb,VG l p.2 _ h2.2]
  have hor:fh (Wp (p::l)) 256=fh (fun x=>decide (p.1.toNat≤x)&&decide (x < (p.2+1).toNat)) 256+fh (Wp l) 256:=by
   apply mN
   ·intro x _
    simp only[Wp,List.any_cons]
    congr 1
    congr 1 <;> (rw[decide_eq_decide];omega)
   ·intro x _ h3 h4
    have:=Nl h2.2 (Pp.1 h4)
    simp at h3;omega
  have hiv:=pO p.1.toNat (p.2+1).toNat 256
  rw[hor,hiv];omega
def zN (l:List (Int×Int)):Nat:=fh (Uf l) 256
theorem gD {l:List (Int×Int)} (h:Oa 255 (-2) l=true):(zN l:Int)=Sb 0 l:=by
 rw[VG l _ _ h]
 have:Uf l=Wp l:=by funext x;rw[Uf,h,Bool.true_and]
 rw[zN,this];omega
abbrev TJ (x n:Int):Tr:=((Tr.lf.set 5 (.pv (i64 x))).set 4 (.pv (i64 n))).set 3 (.ptr 0 0)
theorem Eu {v:PV} {l:List (Int×Int)} (hv:Di 2 v (de l)) (hw:l.length * 16≤140737488355328):vf [v]=some (i64 (zN l)):=by
 have hm:=wo hv hw
 unfold zN
 generalize hf:Uf l=f at *
 have hloop:Td (fun r=>∃ E H,r=(.exit 0,⟨E,H⟩)∧E.get 4= .pv (i64 (fh f 256)))
  (gb (fa (ta (Ga (fun _=>none) 8) oe) (ga 1 [3,4,5])) oa ⟨TJ 0 0,[mb (ae f)]⟩):=by
  refine xa (Nb (g:=fa (ta (Ga (fun _=>none) 8) oe) (ga 1 [3,4,5]))
   (fun x t=>t=⟨TJ x (fh f x),[mb (ae f)]⟩)
   256 (by unfold oa;omega) _ rfl ?_ ?_) (fun r h=>h.2)
  ·rintro x t hx rfl
   have e1:decide ((x:Int)≤255)=true:=Da (by omega)
   have hq:Fa (x:Int) 256:=by unfold Fa;omega
   have t1:((x:Int)).toNat=x:=by simp
   have m1:x * 1=x:=by omega
   have z1:0+x=x:=by omega
   have t2:IntKind.i64.wrap ((x:Int)+1)=((x+1:Nat):Int):=Ba (by omega)
   have hle:=tH f x
   have t3:IntKind.i64.wrap ((fh f x:Int)+1)=(fh f x:Int)+1:=Ba (by omega)
   have pl:=Xh (A:=[mb (ae f)]) (id:=0) (es:=ae f) rfl 0 x
   rw[z1] at pl
   have ld:=Et (A:=[mb (ae f)]) (id:=0) (es:=ae f) rfl (Yz f hx)
   have hcl:Qa (ma 1) [mb (ae f)]=some [mb (ae f)]:=by simp only[Qa,Vg,Option.bind_some,Option.map_some]
   have htk:([mb (ae f)]:List ba).take 1=[mb (ae f)]:=rfl
   have d0:(0 < 1)=True:=by simp
   have hs:=vl f x
   generalize hO:mb (ae f)=O at *
   generalize hQ:LN _ _ x=Q
   cases hfx:f x with
   |true=>
    rw[hfx] at hs ld
    simp -implicitDefEqProofs only[SX,sevalprocAttr,-List.reduceReplicate,oe,e1,eq_true hq,t1,m1,pl,ld,t2,t3,hcl,htk,d0,ga,za,AV.cut,wa,TJ]
    subst hQ
    show (_:St)=_
    rw[hs];rfl
   |false=>
    rw[hfx] at hs ld
    simp -implicitDefEqProofs only[SX,sevalprocAttr,-List.reduceReplicate,oe,e1,eq_true hq,t1,m1,pl,ld,t2,hcl,htk,d0,ga,za,AV.cut,wa,TJ]
    subst hQ
    show (_:St)=_
    rw[hs];rfl
  ·rintro t rfl
   have e1:decide (((256:Nat):Int)≤255)=false:=Ha (by omega)
   generalize fh f 256=c
   generalize hQ:(fun r:Ex×St=>r.1.stop=true∧_)=Q
   simp -implicitDefEqProofs only[SX,sevalprocAttr,-List.reduceReplicate,oe,e1,TJ]
   subst hQ
   exact⟨rfl,_,_,rfl,by simp[Tr.aa]⟩
 have hz1:ba.box (List.map AV.pv (List.replicate 256 (PV.bool false)))=mb (ae fun _=>false):=by rw[Rs]
 have st:Ra [mb (ae fun _=>false)] 256 (.ptr 0 0) (.pv (.agg (ae f)))=some [mb (ae f)]:=ml (id:=0) rfl (Dk _) (Dk f) (BC f)
 have hcl:Qa (ma 1) [mb (ae f)]=some [mb (ae f)]:=by simp only[Qa,Vg,Option.bind_some,Option.map_some]
 have htk:([mb (ae f)]:List ba).take 1=[mb (ae f)]:=rfl
 have d0:(0 < 1)=True:=by simp
 generalize fh f 256=c at *
 generalize hzs:List.replicate 256 (PV.bool false)=zs at *
 generalize mb (ae fun _=>false)=oz at *
 generalize mb (ae f)=ot at *
 generalize ae f=T at *
 apply Lk
 simp -implicitDefEqProofs only[vf,SX,sevalprocAttr,-List.reduceReplicate,qk,hzs,hz1,xb,hm,st,hcl,htk,d0,ga,za,AV.cut,wa]
 refine xa hloop ?_
 rintro r ⟨E,H,rfl,hE⟩
 simp -implicitDefEqProofs only[SX,sevalprocAttr,-List.reduceReplicate,hE]
theorem fw {v:PV} {l:List (Int×Int)} (hv:Di 2 v (de l)) (hw:l.length * 16≤140737488355328) (x:Int):
 Ld [v,i64 x]=some (.bool (decide (0≤x)&&decide (x≤255)&&Uf l x.toNat)):=by
 have hm:=wo hv hw
 generalize hf:Uf l=f at *
 by_cases h0:0≤x
 ·have e0:decide (x≥0)=true:=Da (by omega)
  rw[show decide (0≤x)=true from Da h0]
  by_cases h1:x≤255
  ·have e1:decide (x≤255)=true:=Da h1
   have hq:Fa x 256:=by unfold Fa;omega
   have m1:x.toNat * 1=x.toNat:=by omega
   have hg:=Yz f (x:=x.toNat) (by omega)
   have hp:Tl false 1 (ae f) x.toNat=some (.bool (f x.toNat)):=by unfold Tl;exact hg
   rw[e1]
   generalize f x.toNat=b at *
   generalize ae f=T at *
   simp -implicitDefEqProofs only[Ld,SX,sevalprocAttr,-List.reduceReplicate,dh,e0,e1,hm,eq_true hq,m1,hp,Bool.true_and]
  ·have e1:decide (x≤255)=false:=Ha h1
   simp -implicitDefEqProofs only[Ld,SX,sevalprocAttr,-List.reduceReplicate,dh,e0,e1,Bool.true_and,Bool.false_and]
 ·have e0:decide (x≥0)=false:=Ha (by omega)
  rw[show decide (0≤x)=false from Ha h0]
  simp -implicitDefEqProofs only[Ld,SX,sevalprocAttr,-List.reduceReplicate,dh,e0,Bool.false_and]
abbrev GK (row:List PV) (i n:Int):Tr:=((Tr.lf.set 4 (.pv (i64 i))).set 3 (.pv (i64 n))).set 1 (.pv (.rp row 0))
theorem Ol {e:PV} {s:dc} {P:PV} {ps:List PV} (h:pf e s P ps) (Aa:∀ l∈s.parts,zc l):od [e]=some (i64 (uh 1 s.parts)):=by
 obtain⟨rfl,hP⟩:=h
 have hb:=jm s.parts 1 Aa (by omega) (by omega)
 have hsz:=hP.sz
 have ln:=hP.Wb
 have q0:∀ H (x y:PV),place H 0 (.pv (.rp [x,y] 0))=some (.pv (.rp [x,y] 0)):=fun H x y=>rfl
 have r0:∀ H (x y:PV),ya H false 1 (.pv (.rp [x,y] 0))=some (.pv x):=fun H x y=>rfl
 have hloop:Td (fun r=>∃ E H,r=(.exit 0,⟨E,H⟩)∧E.get 3= .pv (i64 (uh 1 s.parts)))
  (gb (fa (ta (Ga (fun _=>none) 8) Ud) (ga 0 [1,3,4])) oa ⟨GK [P,i64 s.first] 0 1,[]⟩):=by
  refine xa (Nb (g:=fa (ta (Ga (fun _=>none) 8) Ud) (ga 0 [1,3,4]))
   (fun i t=>∃ n,t=⟨GK [P,i64 s.first] i n,[]⟩∧1≤n∧n≤1073741825∧uh 1 s.parts=uh n (s.parts.drop i))
   s.parts.length (by unfold oa;unfold maxLen at hsz;omega) _ ⟨1,rfl,by omega,by omega,rfl⟩ ?_ ?_) (fun r h=>h.2)
  ·rintro i t hi ⟨n,rfl,h1,h2,hs⟩
   obtain⟨v,hv,hpt,a1⟩:=hP.pd hi []
   have hd:s.parts.drop i=s.parts[i]::s.parts.drop (i+1):=List.drop_eq_getElem_cons hi
   have hpo:=Aa s.parts[i] (List.getElem_mem hi)
   have hss:=Eu hpt.is hpt.sz
   rw[gD hpo.2] at hss
   have hsb:=qf hpo
   rw[hd,uh] at hs
   generalize s.parts[i]=l at *
   have hm:=Lw h1 h2 hsb.1 hsb.2
   have e1:decide ((i:Int) < (s.parts.length:Int))=true:=Da (by omega)
   have t2:=Ua hi hsz
   have t3:IntKind.i64.wrap (n * Sb 0 l)=n * Sb 0 l:=Ba (by omega)
   have a2:∀ H (v:PV),ya H false 1 (.pv (.rp [v] 0))=some (.pv v):=fun H v=>rfl
   generalize hQ:LN _ _ i=Q
   by_cases hg:n * Sb 0 l > 1073741824
   ·have d1:=Da hg
    simp -implicitDefEqProofs only[SX,sevalprocAttr,-List.reduceReplicate,Ud,e1,ln,q0,r0,t2,t3,a1,a2,hss,d1,ga,za,AV.cut,wa,GK]
    subst hQ
    refine⟨1073741825,rfl,by omega,by omega,?_⟩
    rw[hs];congr 1;split <;> omega
   ·have d1:=Ha hg
    simp -implicitDefEqProofs only[SX,sevalprocAttr,-List.reduceReplicate,Ud,e1,ln,q0,r0,t2,t3,a1,a2,hss,d1,ga,za,AV.cut,wa,GK]
    subst hQ
    refine⟨n * Sb 0 l,rfl,by omega,by omega,?_⟩
    rw[hs];congr 1;split <;> omega
  ·rintro t ⟨n,rfl,h1,h2,hs⟩
   rw[List.drop_length,uh] at hs
   have e1:decide ((s.parts.length:Int) < (s.parts.length:Int))=false:=Ha (by omega)
   generalize hQ:(fun r:Ex×St=>r.1.stop=true∧_)=Q
   simp -implicitDefEqProofs only[SX,sevalprocAttr,-List.reduceReplicate,Ud,e1,ln,q0,r0,GK]
   subst hQ
   exact⟨rfl,_,_,rfl,by simp[Tr.aa,hs]⟩
 have hP1:(AV.pv P).one=true:=by rcases hP.is with⟨h,_⟩ | h <;> rw[h] <;> rfl
 generalize uh 1 s.parts=n at *
 apply Lk
 simp -implicitDefEqProofs only[od,SX,sevalprocAttr,-List.reduceReplicate,Kj,hP1,xb,ga,za,AV.cut,wa]
 refine xa hloop ?_
 rintro r ⟨E,H,rfl,hE⟩
 simp -implicitDefEqProofs only[SX,sevalprocAttr,-List.reduceReplicate,hE]
end Go.AM.B1
namespace Go.AM.B1
open Go.AM Go.AM.So
theorem Vb (H:List ba) (x y:PV):place H 0 (.pv (.rp [x,y] 0))=some (.pv (.rp [x,y] 0)):=rfl
theorem bg (H:List ba) (x y:PV):place H 1 (.pv (.rp [x,y] 0))=some (.pv (.rp [x,y] 1)):=rfl
theorem Cc (H:List ba) (x y:PV):ya H false 1 (.pv (.rp [x,y] 0))=some (.pv x):=rfl
theorem Mg (H:List ba) (x y:PV):ya H false 1 (.pv (.rp [x,y] 1))=some (.pv y):=rfl
theorem Vc (H:List ba) (x y:PV):ya H true 2 (.pv (.rp [x,y] 0))=some (.pv (.agg [x,y])):=rfl
theorem Pa (H:List ba) (x:PV):ya H false 1 (.pv (.rp [x] 0))=some (.pv x):=rfl
theorem Hb (H:List ba) (x:PV):place H 0 (.pv (.rp [x] 0))=some (.pv (.rp [x] 0)):=rfl
theorem Pf (H:List ba) (x:PV):ya H true 1 (.pv (.rp [x] 0))=some (.pv (.agg [x])):=rfl
abbrev aG (row:List PV) (i:Int):Tr:=(Tr.lf.set 3 (.pv (i64 i))).set 1 (.pv (.rp row 0))
theorem cq {e:PV} {s:dc} {P:PV} {ps:List PV} (h:pf e s P ps):∃ b,Ob [e]=some (.bool b)∧(b=true↔Nd s):=by
 have hh:=h
 obtain⟨rfl,hP⟩:=h
 have hsz:=hP.sz
 have ln:=hP.Wb
 have hP1:(AV.pv P).one=true:=by rcases hP.is with⟨h,_⟩ | h <;> rw[h] <;> rfl
 by_cases c1:(s.parts.length:Int) < 1
 ·have d1:=Da c1
  refine⟨false,?_,by simp;intro h;have:=h.lo;omega⟩
  simp -implicitDefEqProofs only[Ob,SX,sevalprocAttr,yb,hP1,Vb,bg,Cc,Mg,ln,d1]
 have d1:=Ha c1
 by_cases c2:(s.parts.length:Int) > 8
 ·have d2:=Da c2
  refine⟨false,?_,by simp;intro h;have:=h.hi;omega⟩
  simp -implicitDefEqProofs only[Ob,SX,sevalprocAttr,yb,hP1,Vb,bg,Cc,Mg,ln,d1,d2]
 have d2:=Ha c2
 by_cases c3:s.first < 0
 ·have d3:=Da c3
  refine⟨false,?_,by simp;intro h;have:=h.f0;omega⟩
  simp -implicitDefEqProofs only[Ob,SX,sevalprocAttr,yb,hP1,Vb,bg,Cc,Mg,ln,d1,d2,d3]
 have d3:=Ha c3
 by_cases c4:s.first > 1073741823
 ·have d4:=Da c4
  refine⟨false,?_,by simp;intro h;have:=h.f1;omega⟩
  simp -implicitDefEqProofs only[Ob,SX,sevalprocAttr,yb,hP1,Vb,bg,Cc,Mg,ln,d1,d2,d3,d4]
 have d4:=Ha c4
 have hloop:Td (fun r=>∃ E,(r=(.exit 0,⟨E,[]⟩)∧E.get 1= .pv (.rp [P,i64 s.first] 0)∧∀ l∈s.parts,zc l)∨(r=(.ret,⟨E,[]⟩)∧E.get 2= .pv (.bool false)∧¬∀ l∈s.parts,zc l))
  (gb (fa (ta (Ga (fun _=>none) 8) mc) (ga 0 [1,3])) oa ⟨aG [P,i64 s.first] 0,[]⟩):=by
  refine xa (Nb (g:=fa (ta (Ga (fun _=>none) 8) mc) (ga 0 [1,3]))
   (fun i t=>t=⟨aG [P,i64 s.first] i,[]⟩∧∀ l∈s.parts.take i,zc l)
   s.parts.length (by unfold oa;unfold maxLen at hsz;omega) _ ⟨rfl,by simp⟩ ?_ ?_) (fun r h=>h.2)
  ·rintro i t hi ⟨rfl,hs⟩
   obtain⟨v,hv,hpt,a1⟩:=hP.pd hi []
   have hmem:=List.getElem_mem hi
   have hnext:zc s.parts[i]→∀ l∈s.parts.take (i+1),zc l:=by
    intro h l hl
    have:s.parts.take (i+1)=s.parts.take i++[s.parts[i]]:=by simp
    rw[this] at hl
    rcases List.mem_append.1 hl with h1 | h1
    ·exact hs l h1
    ·simp at h1;subst h1;exact h
   have hvl:=Tx hpt.is hpt.sz
   have lv:=hpt.is.len
   simp only[de,List.length_map] at lv
   generalize s.parts[i]=l at *
   have e1:decide ((i:Int) < (s.parts.length:Int))=true:=Da (by omega)
   have t2:=Ua hi hsz
   generalize hQ:LN _ _ i=Q
   by_cases h0:l=[]
   ·have e0:((l.length:Int)==0)=true:=by simp[h0]
    simp -implicitDefEqProofs only[SX,sevalprocAttr,mc,e1,ln,Vb,Cc,Pa,a1,lv,e0,aG]
    subst hQ
    exact⟨_,.inr ⟨rfl,by simp[Tr.aa],fun h=>(h _ hmem).1 h0⟩⟩
   ·have e0:((l.length:Int)==0)=false:=by
     have:l.length≠0:=fun e=>h0 (List.eq_nil_of_length_eq_zero e)
     exact ni (by omega)
    cases hb:Oa 255 (-2) l with
    |true=>
     rw[hb] at hvl
     simp -implicitDefEqProofs only[SX,sevalprocAttr,mc,e1,ln,Vb,Cc,Pa,a1,lv,e0,hvl,t2,ga,za,AV.cut,wa,aG]
     subst hQ
     exact⟨rfl,hnext ⟨h0,hb⟩⟩
    |false=>
     rw[hb] at hvl
     simp -implicitDefEqProofs only[SX,sevalprocAttr,mc,e1,ln,Vb,Cc,Pa,a1,lv,e0,hvl,aG]
     subst hQ
     exact⟨_,.inr ⟨rfl,by simp[Tr.aa],fun h=>by have:=(h _ hmem).2;rw[hb] at this;cases this⟩⟩
  ·rintro t ⟨rfl,hs⟩
   rw[List.take_length] at hs
   have e1:decide ((s.parts.length:Int) < (s.parts.length:Int))=false:=Ha (by omega)
   generalize hQ:(fun r:Ex×St=>r.1.stop=true∧_)=Q
   simp -implicitDefEqProofs only[SX,sevalprocAttr,mc,e1,ln,Vb,Cc,aG]
   subst hQ
   exact⟨rfl,_,.inl ⟨rfl,by simp[Tr.aa],hs⟩⟩
 have key:Td (fun r=>∃ b,r=(.pv (.bool b),([]:List ba))∧(b=true↔Nd s)) (Ni (Ga (fun _=>none) 8) yb [.pv (.agg [P,i64 s.first])] []):=by
  generalize hQQ:(fun r:AV×List ba=>_)=QQ
  simp -implicitDefEqProofs only[SX,sevalprocAttr,yb,hP1,Vb,bg,Cc,Mg,ln,d1,d2,d3,d4,xb,ga,za,AV.cut,wa]
  refine xa hloop ?_
  rintro _ ⟨E,⟨rfl,hE,hb⟩ | ⟨rfl,hE,hb⟩⟩
  ·have hct:=Ol hh hb
   have hbd:=jm s.parts 1 hb (by omega) (by omega)
   have hif:(decide (s.first+uh 1 s.parts - 1≤1073741823)=true)↔Nd s:=by
    rw[decide_eq_true_iff]
    constructor
    ·intro h;exact⟨by omega,by omega,by omega,by omega,hb,h⟩
    ·intro h;exact h.last
   generalize uh 1 s.parts=n at *
   have t3:IntKind.i64.wrap (s.first+n)=s.first+n:=Ba (by omega)
   have t4:IntKind.i64.wrap (s.first+n - 1)=s.first+n - 1:=Ba (by omega)
   simp -implicitDefEqProofs only[SX,sevalprocAttr,hE,Vb,bg,Cc,Mg,Vc,hct,t3,t4]
   subst hQQ
   exact⟨_,rfl,hif⟩
  ·simp -implicitDefEqProofs only[SX,sevalprocAttr,hE]
   subst hQQ
   exact⟨false,rfl,by simp;exact fun h=>hb h.parts⟩
 obtain⟨r,h1,b,rfl,hb⟩:=Fc key
 refine⟨b,?_,hb⟩
 generalize hk:Ni (Ga (fun _=>none) 8) yb [.pv (.agg [P,i64 s.first])] []=k at h1
 subst h1
 have:Ob [.agg [P,i64 s.first]]=(Ni (Ga (fun _=>none) 8) yb [.pv (.agg [P,i64 s.first])] []).bind fun r=>Ub r.2 deep r.1:=rfl
 rw[this,hk];rfl
theorem Hm {e:PV} {s:dc} {P:PV} {ps:List PV} (h:pf e s P ps) (Aa:Nd s):Yd [e]=some (i64 (uh 1 s.parts)):=by
 obtain⟨b,hb,hbb⟩:=cq h
 have hc:=Ol h Aa.parts
 have:=hbb.2 Aa
 subst this
 obtain⟨rfl,hP⟩:=h
 have hP1:(AV.pv P).one=true:=by rcases hP.is with⟨h,_⟩ | h <;> rw[h] <;> rfl
 simp -implicitDefEqProofs only[Yd,SX,sevalprocAttr,Cj,hP1,Vc,hb,hc]
end Go.AM.B1
namespace Go.AM.B1
open Go.AM Go.AM.So
theorem wO {p q:dc} (hp:Nd p) (hq:Nd q):Vm p q↔¬(q.first≤Nh p∧p.first≤Nh q):=by
 have h1:=hp.RB
 have h2:=hq.RB
 unfold Vm
 constructor
 ·intro h hn
  by_cases hle:p.first≤q.first
  ·exact h q.first ⟨⟨hle,hn.1⟩,⟨Int.le_refl _,h2⟩⟩
  ·exact h p.first ⟨⟨Int.le_refl _,h1⟩,⟨by omega,hn.2⟩⟩
 ·intro h x hx
  exact h ⟨by omega,by omega⟩
theorem Rq {p:dc} (hp:Nd p):1≤uh 1 p.parts∧uh 1 p.parts≤1073741825:=jm p.parts 1 hp.parts (by omega) (by omega)
abbrev RG (S:PV) (i j:Int):Tr:=((Tr.lf.set 5 (.pv (i64 j))).set 1 (.pv (i64 i))).set 0 (.pv S)
theorem BI {S:PV} {ss:List dc} {es:List PV} (hS:Ab S ss es) {i:Nat} (hi:i < ss.length) (Aa:∀ j,j≤i→(h:j < ss.length)→Nd ss[j]):
 ∃ b,Fg [S,i64 i]=some (.bool b)∧(b=false↔∀ j,j < i→(h:j < ss.length)→Vm ss[j] ss[i]):=by
 have hsz:=hS.sz
 obtain⟨P,ps,hP,a0⟩:=hS.pd hi
 have okp:=Aa i (Nat.le_refl _) hi
 have hcp:=Ol hP okp.parts
 have hbp:=Rq okp
 have hap:=fun j (hj:j < i) (h:j < ss.length)=>wO (Aa j (by omega) h) okp
 generalize ss[i]=p at *
 have hloop:Td (fun r=>∃ E,(r=(.exit 0,⟨E,[]⟩)∧∀ j,j < i→(h:j < ss.length)→Vm ss[j] p)∨(r=(.ret,⟨E,[]⟩)∧E.get 4= .pv (.bool true)∧∃ j,j < i∧∃ h:j < ss.length,¬Vm ss[j] p))
  (gb (fa (ta (Ga (fun _=>none) 8) sd) (ga 0 [0,1,5])) oa ⟨RG S i 0,[]⟩):=by
  refine xa (Nb (g:=fa (ta (Ga (fun _=>none) 8) sd) (ga 0 [0,1,5]))
   (fun j t=>t=⟨RG S i j,[]⟩∧∀ j',j' < j→(h:j' < ss.length)→Vm ss[j'] p)
   i (by unfold oa;unfold maxLen at hsz;omega) _ ⟨rfl,by intro j h;omega⟩ ?_ ?_) (fun r h=>h.2)
  ·rintro j t hj ⟨rfl,hs⟩
   have hj2:j < ss.length:=by omega
   obtain⟨Q,qs,hQ,b0⟩:=hS.pd hj2
   have okq:=Aa j (by omega) hj2
   have hcq:=Ol hQ okq.parts
   have hbq:=Rq okq
   have haq:=hap j hj hj2
   have hnext:Vm ss[j] p→∀ j',j' < j+1→(h:j' < ss.length)→Vm ss[j'] p:=by
    intro h j' h1 h2
    rcases Nat.lt_or_ge j' j with h3 | h3
    ·exact hs j' h3 h2
    ·have:j'=j:=by omega
     subst this;exact h
   have hex:¬Vm ss[j] p→∃ j,j < i∧∃ h:j < ss.length,¬Vm ss[j] p:=fun h=>⟨j,hj,hj2,h⟩
   have hqf0:=okq.f0
   have hqf1:=okq.f1
   have hpf0:=okp.f0
   have hpf1:=okp.f1
   unfold Nh at haq
   generalize hq:ss[j]=q at *
   generalize uh 1 p.parts=np at *
   generalize uh 1 q.parts=nq at *
   have e1:decide ((j:Int) < (i:Int))=true:=Da (by omega)
   have t2:=Ua hj (show i≤maxLen by omega)
   have t3:IntKind.i64.wrap (q.first+nq)=q.first+nq:=Ba (by omega)
   have t4:IntKind.i64.wrap (q.first+nq - 1)=q.first+nq - 1:=Ba (by omega)
   have t5:IntKind.i64.wrap (p.first+np)=p.first+np:=Ba (by omega)
   have t6:IntKind.i64.wrap (p.first+np - 1)=p.first+np - 1:=Ba (by omega)
   generalize hQQ:LN _ _ j=QQ
   by_cases c1:p.first≤q.first+nq - 1
   ·have d1:=Da c1
    by_cases c2:q.first≤p.first+np - 1
    ·have d2:=Da c2
     simp -implicitDefEqProofs only[SX,sevalprocAttr,sd,e1,a0,b0,bg,Mg,Vc,hcp,hcq,t3,t4,t5,t6,d1,d2,RG]
     subst hQQ
     exact⟨_,.inr ⟨rfl,by simp[Tr.aa],hex (fun h=>(haq.1 h) ⟨c1,c2⟩)⟩⟩
    ·have d2:=Ha c2
     simp -implicitDefEqProofs only[SX,sevalprocAttr,sd,e1,a0,b0,bg,Mg,Vc,hcp,hcq,t2,t3,t4,t5,t6,d1,d2,ga,za,AV.cut,wa,RG]
     subst hQQ
     exact⟨rfl,hnext (haq.2 fun h=>c2 h.2)⟩
   ·have d1:=Ha c1
    simp -implicitDefEqProofs only[SX,sevalprocAttr,sd,e1,a0,b0,bg,Mg,Vc,hcp,hcq,t2,t3,t4,d1,ga,za,AV.cut,wa,RG]
    subst hQQ
    exact⟨rfl,hnext (haq.2 fun h=>c1 h.1)⟩
  ·rintro t ⟨rfl,hs⟩
   have e1:decide ((i:Int) < (i:Int))=false:=Ha (by omega)
   generalize hQ:(fun r:Ex×St=>r.1.stop=true∧_)=Q
   simp -implicitDefEqProofs only[SX,sevalprocAttr,sd,e1,RG]
   subst hQ
   exact⟨rfl,_,.inl ⟨rfl,hs⟩⟩
 have key:Td (fun r=>∃ b,r=PV.bool b∧(b=false↔∀ j,j < i→(h:j < ss.length)→Vm ss[j] p)) (Fg [S,i64 i]):=by
  generalize hQQ:(fun r:PV=>_)=QQ
  simp -implicitDefEqProofs only[Fg,SX,sevalprocAttr,ik,xb,ga,za,AV.cut,wa]
  refine xa hloop ?_
  rintro _ ⟨E,⟨rfl,hb⟩ | ⟨rfl,hE,j,hj,hj2,hb⟩⟩
  ·simp -implicitDefEqProofs only[SX,sevalprocAttr]
   subst hQQ
   exact⟨false,rfl,by simpa using hb⟩
  ·simp -implicitDefEqProofs only[SX,sevalprocAttr,hE]
   subst hQQ
   exact⟨true,rfl,by simp;exact⟨j,hj,hj2,hb⟩⟩
 obtain⟨r,h1,b,rfl,hb⟩:=Fc key
 exact⟨b,h1,hb⟩
abbrev gA (row:List PV) (i:Int):Tr:=(Tr.lf.set 3 (.pv (i64 i))).set 1 (.pv (.rp row 0))
theorem wG {ss:List dc}:Hc ss↔ss.length≤32∧∀ i,(hi:i < ss.length)→Nd ss[i]∧∀ j,j < i→(h:j < ss.length)→Vm ss[j] ss[i]:=by
 constructor
 ·intro h
  refine⟨h.len,fun i hi=>⟨h.As _ (List.getElem_mem hi),fun j hj hj2=> ?_⟩⟩
  exact List.pairwise_iff_getElem.1 h.apart j i hj2 hi hj
 ·rintro⟨h1,h2⟩
  refine⟨h1,?_,?_⟩
  ·intro s hs
   obtain⟨i,hi,rfl⟩:=List.getElem_of_mem hs
   exact (h2 i hi).1
  ·rw[List.pairwise_iff_getElem]
   intro i j hi hj hij
   exact (h2 j hj).2 i hij hi
theorem Pv {S:PV} {ss:List dc} {es:List PV} (hS:Ab S ss es):∃ b,Vd [.agg [S]]=some (.bool b)∧(b=true↔Hc ss):=by
 have hsz:=hS.sz
 have ln:=hS.Wb
 have hS1:(AV.pv S).one=true:=by rcases hS.is with⟨h,_⟩ | h <;> rw[h] <;> rfl
 by_cases c1:(ss.length:Int) > 32
 ·have d1:=Da c1
  refine⟨false,?_,by simp;intro h;have:=h.len;omega⟩
  simp -implicitDefEqProofs only[Vd,SX,sevalprocAttr,Kh,hS1,Hb,Pa,ln,d1]
 have d1:=Ha c1
 have hloop:Td (fun r=>∃ E,(r=(.exit 0,⟨E,[]⟩)∧Hc ss)∨(r=(.ret,⟨E,[]⟩)∧E.get 2= .pv (.bool false)∧¬Hc ss))
  (gb (fa (ta (Ga (fun _=>none) 8) Sc) (ga 0 [1,3])) oa ⟨gA [S] 0,[]⟩):=by
  refine xa (Nb (g:=fa (ta (Ga (fun _=>none) 8) Sc) (ga 0 [1,3]))
   (fun i t=>t=⟨gA [S] i,[]⟩∧∀ k,k < i→(hk:k < ss.length)→Nd ss[k]∧∀ j,j < k→(h:j < ss.length)→Vm ss[j] ss[k])
   ss.length (by unfold oa;unfold maxLen at hsz;omega) _ ⟨rfl,by intro j h;omega⟩ ?_ ?_) (fun r h=>h.2)
  ·rintro i t hi ⟨rfl,hs⟩
   obtain⟨P,ps,hP,a0⟩:=hS.pd hi
   obtain⟨b,hb,hbb⟩:=cq hP
   have hmt:Nd ss[i]→_:=fun h=>BI hS hi (fun j hj hj2=>by
    rcases Nat.lt_or_ge j i with h1 | h1
    ·exact (hs j h1 hj2).1
    ·have:j=i:=by omega
     subst this;exact h)
   have hnext:Nd ss[i]→(∀ j,j < i→(h:j < ss.length)→Vm ss[j] ss[i])→∀ k,k < i+1→(hk:k < ss.length)→Nd ss[k]∧∀ j,j < k→(h:j < ss.length)→Vm ss[j] ss[k]:=by
    intro h1 h2 k hk hk2
    rcases Nat.lt_or_ge k i with h3 | h3
    ·exact hs k h3 hk2
    ·have:k=i:=by omega
     subst this;exact⟨h1,h2⟩
   have hbad:¬(Nd ss[i]∧∀ j,j < i→(h:j < ss.length)→Vm ss[j] ss[i])→¬Hc ss:=fun h hh=>h ((wG.1 hh).2 i hi)
   generalize hgi:ss[i]=p at *
   have e1:decide ((i:Int) < (ss.length:Int))=true:=Da (by omega)
   have t2:=Ua hi hsz
   generalize hQQ:LN _ _ i=QQ
   cases b with
   |false=>
    have hno:¬Nd p:=fun h=>by have:=hbb.2 h;cases this
    simp -implicitDefEqProofs only[SX,sevalprocAttr,Sc,e1,ln,Hb,Pa,a0,Vc,hb,gA]
    subst hQQ
    exact⟨_,.inr ⟨rfl,by simp[Tr.aa],hbad fun h=>hno h.1⟩⟩
   |true=>
    have okp:=hbb.1 rfl
    obtain⟨c,hc,hcc⟩:=hmt okp
    cases c with
    |false=>
     simp -implicitDefEqProofs only[SX,sevalprocAttr,Sc,e1,ln,Hb,Pa,a0,Vc,hb,hc,t2,ga,za,AV.cut,wa,gA]
     subst hQQ
     exact⟨rfl,hnext okp (hcc.1 rfl)⟩
    |true=>
     simp -implicitDefEqProofs only[SX,sevalprocAttr,Sc,e1,ln,Hb,Pa,a0,Vc,hb,hc,gA]
     subst hQQ
     exact⟨_,.inr ⟨rfl,by simp[Tr.aa],hbad fun h=>by have:=hcc.2 h.2;cases this⟩⟩
  ·rintro t ⟨rfl,hs⟩
   have e1:decide ((ss.length:Int) < (ss.length:Int))=false:=Ha (by omega)
   generalize hQ:(fun r:Ex×St=>r.1.stop=true∧_)=Q
   simp -implicitDefEqProofs only[SX,sevalprocAttr,Sc,e1,ln,Hb,Pa,gA]
   subst hQ
   exact⟨rfl,_,.inl ⟨rfl,wG.2 ⟨by omega,fun i hi=>hs i hi hi⟩⟩⟩
 have key:Td (fun r=>∃ b,r=PV.bool b∧(b=true↔Hc ss)) (Vd [.agg [S]]):=by
  generalize hQQ:(fun r:PV=>_)=QQ
  simp -implicitDefEqProofs only[Vd,SX,sevalprocAttr,Kh,hS1,Hb,Pa,ln,d1,xb,ga,za,AV.cut,wa]
  refine xa hloop ?_
  rintro _ ⟨E,⟨rfl,hb⟩ | ⟨rfl,hE,hb⟩⟩
  ·simp -implicitDefEqProofs only[SX,sevalprocAttr]
   subst hQQ
   exact⟨true,rfl,by simpa using hb⟩
  ·simp -implicitDefEqProofs only[SX,sevalprocAttr,hE]
   subst hQQ
   exact⟨false,rfl,by simpa using hb⟩
 obtain⟨r,h1,b,rfl,hb⟩:=Fc key
 exact⟨b,h1,hb⟩
end Go.AM.B1
namespace Go.AM.B1
open Go.AM Go.AM.So
abbrev UE (rp rq:List PV) (n i:Int) (nl:Bool) (es:List PV):Tr:=((((Tr.lf.set 9 (.pv (i64 i))).set 8 (.uq 0 nl 1 es)).set 4 (.pv (.rp rq 0))).set 3 (.pv (.rp rp 0))).set 2 (.pv (i64 n))
abbrev iA (rp rq:List PV) (n i x:Int) (nl:Bool) (es:List PV):Tr:=(((((Tr.lf.set 10 (.pv (i64 x))).set 9 (.pv (i64 i))).set 8 (.uq 0 nl 1 es)).set 4 (.pv (.rp rq 0))).set 3 (.pv (.rp rp 0))).set 2 (.pv (i64 n))
theorem gB (call:Za) {P Q:PV} {a b:PV} {n:Int} {lp lq:List (List (Int×Int))} {ps qs:List PV} (hp:Rf P lp ps) (hq:Rf Q lq qs) {i:Nat} (hip:i < lp.length) (hiq:i < lq.length) (nl:Bool) (es:List PV) (m:Nat):
 Td (fun r=>∃ E y,r=(.exit 2,⟨E,[.tok 1 m nl]⟩)∧E.get 2= .pv (i64 n)∧E.get 3= .pv (.rp [P,a] 0)∧E.get 4= .pv (.rp [Q,b] 0)∧E.get 8= .uq 0 nl 1 es∧E.get 9= .pv (i64 i)∧E.get 10= .pv (i64 (y:Nat))∧
  ((y < 256∧Uf lp[i] y=true∧Uf lq[i] y=true)∨(y=256∧∀ x,x < 256→¬(Uf lp[i] x=true∧Uf lq[i] x=true))))
  (gb (fa (ta call Kc) (ga 1 [2,3,4,8,9,10])) oa ⟨iA [P,a] [Q,b] n i 0 nl es,[.tok 1 m nl]⟩):=by
 obtain⟨v,hv,hpv,a1⟩:=hp.pd hip [.tok 1 m nl]
 obtain⟨w,hw,hqw,a2⟩:=hq.pd hiq [.tok 1 m nl]
 have hhp:=fw hpv.is hpv.sz
 have hhq:=fw hqw.is hqw.sz
 generalize lp[i]=lv at *
 generalize lq[i]=lw at *
 refine xa (Nb (g:=fa (ta call Kc) (ga 1 [2,3,4,8,9,10]))
  (fun x t=>t=⟨iA [P,a] [Q,b] n i x nl es,[.tok 1 m nl]⟩∧∀ x',x' < x→¬(Uf lv x'=true∧Uf lw x'=true))
  256 (by unfold oa;omega) _ ⟨rfl,by intro x h;omega⟩ ?_ ?_) (fun r h=>h.2)
 ·rintro x t hx ⟨rfl,hs⟩
  have e1:decide ((x:Int) < 256)=true:=Da (by omega)
  have t2:IntKind.i64.wrap ((x:Int)+1)=((x+1:Nat):Int):=Ba (by omega)
  have hp1:=hhp (x:Int)
  have hq1:=hhq (x:Int)
  rw[Da (show (0:Int)≤x by omega),Da (show (x:Int)≤255 by omega),Int.toNat_natCast,Bool.true_and,Bool.true_and] at hp1 hq1
  have hz:(0 < 1)=True:=by simp
  have hnext:¬(Uf lv x=true∧Uf lw x=true)→∀ x',x' < x+1→¬(Uf lv x'=true∧Uf lw x'=true):=by
   intro h x' hx'
   rcases Nat.lt_or_ge x' x with h1 | h1
   ·exact hs x' h1
   ·have:x'=x:=by omega
    subst this;exact h
  generalize hQ:LN _ _ x=QQ
  cases h1:Uf lv x with
  |false=>
   rw[h1] at hp1
   simp -implicitDefEqProofs only[SX,sevalprocAttr,Kc,e1,Vb,Cc,Pa,a1,a2,hp1,t2,hz,ga,za,AV.cut,ma,wa,iA]
   subst hQ
   exact⟨rfl,hnext (by rw[h1];simp)⟩
  |true=>
   rw[h1] at hp1
   cases h2:Uf lw x with
   |false=>
    rw[h2] at hq1
    simp -implicitDefEqProofs only[SX,sevalprocAttr,Kc,e1,Vb,Cc,Pa,a1,a2,hp1,hq1,t2,hz,ga,za,AV.cut,ma,wa,iA]
    subst hQ
    exact⟨rfl,hnext (by rw[h2];simp)⟩
   |true=>
    rw[h2] at hq1
    simp -implicitDefEqProofs only[SX,sevalprocAttr,Kc,e1,Vb,Cc,Pa,a1,a2,hp1,hq1,iA]
    subst hQ
    exact⟨_,x,rfl,by simp[Tr.aa],by simp[Tr.aa],by simp[Tr.aa],by simp[Tr.aa],by simp[Tr.aa],by simp[Tr.aa],.inl ⟨hx,h1,h2⟩⟩
 ·rintro t ⟨rfl,hs⟩
  have e1:decide (((256:Nat):Int) < 256)=false:=Ha (by omega)
  generalize hQ:(fun r:Ex×St=>r.1.stop=true∧_)=QQ
  simp -implicitDefEqProofs only[SX,sevalprocAttr,Kc,e1,iA]
  subst hQ
  exact⟨rfl,_,256,rfl,by simp[Tr.aa],by simp[Tr.aa],by simp[Tr.aa],by simp[Tr.aa],by simp[Tr.aa],by simp[Tr.aa],.inr ⟨rfl,hs⟩⟩
theorem Fy {p q:List (List (Int×Int))} {i:Nat} (hp:i < p.length) (hq:i < q.length) (vp:Oa 255 (-2) p[i]=true) (vq:Oa 255 (-2) q[i]=true):
 Uo p q i≠[]↔∃ x,x < 256∧Uf p[i] x=true∧Uf q[i] x=true:=by
 have hmA:Uo p q i=Xf (p[i].length+q[i].length) p[i] q[i]:=by
  unfold Uo
  rw[List.getElem?_eq_getElem hp,List.getElem?_eq_getElem hq]
 have hlaw:=Ns _ _ _ (-2) (-2) vp vq (Nat.le_refl _)
 have hme:=an vp
 rw[hmA]
 generalize p[i]=a at *
 generalize q[i]=b at *
 constructor
 ·intro h
  obtain⟨m,hm⟩:=List.exists_mem_of_ne_nil _ h
  have h2:=(hlaw.1 m.1).1 ⟨m,hm,Int.le_refl _,hlaw.2 m hm⟩
  have h0:0≤m.1∧m.1≤255:=by
   obtain⟨pp,hpp,h3,h4⟩:=h2.1
   have:=hme pp hpp;omega
  refine⟨m.1.toNat,by omega,?_,?_⟩
  ·rw[Uf,vp,Bool.true_and,Pp,Int.toNat_of_nonneg h0.1];exact h2.1
  ·rw[Uf,vq,Bool.true_and,Pp,Int.toNat_of_nonneg h0.1];exact h2.2
 ·rintro⟨x,hx,h1,h2⟩ hnil
  rw[Uf,vp,Bool.true_and,Pp] at h1
  rw[Uf,vq,Bool.true_and,Pp] at h2
  have:=(hlaw.1 x).2 ⟨h1,h2⟩
  rw[hnil] at this
  exact Xm _ this
theorem iw {e f:PV} {p q:dc} {P Q:PV} {ps qs:List PV} (hp:pf e p P ps) (hq:pf f q Q qs) (op:Nd p) (oq:Nd q) {n:Nat} (hn:n≤p.parts.length) (hn2:n≤q.parts.length):
 ∃ v,De [e,f,i64 n]=some (.Zb [v,.bool (ec p.parts q.parts n 0).isSome]):=by
 have hc1:=Hm hp op
 have hc2:=Hm hq oq
 have hb1:=Rq op
 have hb2:=Rq oq
 obtain⟨hP1,hP2⟩:=hp.Mv
 obtain⟨hQ1,hQ2⟩:=hq.Mv
 have heq:=hp.eq
 have hfq:=hq.eq
 subst heq hfq
 have h8:=op.hi
 have lP:=hp.parts.Wb
 have lQ:=hq.parts.Wb
 have hloop:Td (fun r=>∃ E H,(r=(.ret,⟨E,H⟩)∧E.get 6= .pv .pa∧E.get 7= .pv (.bool false)∧(ec p.parts q.parts n 0).isSome=false)∨(∃ nl es,r=(.exit 0,⟨E,H⟩)∧E.get 8= .uq 0 nl 1 es∧(ec p.parts q.parts n 0).isSome=true))
  (gb (fa (ta (Ga (fun _=>none) 8) Ge) (ga 1 [2,3,4,8,9])) oa ⟨UE [P,i64 p.first] [Q,i64 q.first] n 0 true [],[.tok 1 0 true]⟩):=by
  refine xa (Nb (g:=fa (ta (Ga (fun _=>none) 8) Ge) (ga 1 [2,3,4,8,9]))
   (fun i t=>∃ nl es,t=⟨UE [P,i64 p.first] [Q,i64 q.first] n i nl es,[.tok 1 i nl]⟩∧es.length=i∧(ec p.parts q.parts n 0).isSome=(ec p.parts q.parts (n - i) i).isSome)
   n (by unfold oa;omega) _ ⟨true,[],rfl,rfl,rfl⟩ ?_ ?_) (fun r h=>h.2)
  ·rintro i t hi ⟨nl,es,rfl,hlen,hs⟩
   have hip:i < p.parts.length:=by omega
   have hiq:i < q.parts.length:=by omega
   have hin:=gB (Ga (fun _=>none) 8) (a:=i64 p.first) (b:=i64 q.first) (n:=n) hp.parts hq.parts hip hiq nl es i
   have okv:=op.parts _ (List.getElem_mem hip)
   have okw:=oq.parts _ (List.getElem_mem hiq)
   have hma:=Fy hip hiq okv.2 okw.2
   obtain⟨m,hm⟩:∃ m,n - i=m+1:=⟨n - i - 1,by omega⟩
   have hm':n - (i+1)=m:=by omega
   rw[hm,ec] at hs
   have e1:decide ((i:Int) < (n:Int))=true:=Da (by omega)
   have t2:=Ua (i:=i) (n:=n) hi (by unfold maxLen;omega)
   have hz:(0 < 1)=True:=by simp
   have hLN:∀ (nl':Bool) (es':List PV) (s:St),s=⟨UE [P,i64 p.first] [Q,i64 q.first] n (i+1:Nat) nl' es',[.tok 1 (i+1) nl']⟩→es'.length=i+1→(ec p.parts q.parts n 0).isSome=(ec p.parts q.parts m (i+1)).isSome→
    LN (fun i t=>∃ nl es,t=⟨UE [P,i64 p.first] [Q,i64 q.first] n i nl es,[.tok 1 i nl]⟩∧es.length=i∧(ec p.parts q.parts n 0).isSome=(ec p.parts q.parts (n - i) i).isSome)
     (fun r=>∃ E H,(r=(.ret,⟨E,H⟩)∧E.get 6= .pv .pa∧E.get 7= .pv (.bool false)∧(ec p.parts q.parts n 0).isSome=false)∨(∃ nl es,r=(.exit 0,⟨E,H⟩)∧E.get 8= .uq 0 nl 1 es∧(ec p.parts q.parts n 0).isSome=true)) i (.norm,s):=
    fun nl' es' s h1 h2 h3=>⟨nl',es',h1,h2,by rw[hm'];exact h3⟩
   have hLR:∀ (E:Tr) (H:List ba),E.get 6= .pv .pa→E.get 7= .pv (.bool false)→(ec p.parts q.parts n 0).isSome=false→
    LN (fun i t=>∃ nl es,t=⟨UE [P,i64 p.first] [Q,i64 q.first] n i nl es,[.tok 1 i nl]⟩∧es.length=i∧(ec p.parts q.parts n 0).isSome=(ec p.parts q.parts (n - i) i).isSome)
     (fun r=>∃ E H,(r=(.ret,⟨E,H⟩)∧E.get 6= .pv .pa∧E.get 7= .pv (.bool false)∧(ec p.parts q.parts n 0).isSome=false)∨(∃ nl es,r=(.exit 0,⟨E,H⟩)∧E.get 8= .uq 0 nl 1 es∧(ec p.parts q.parts n 0).isSome=true)) i (.ret,⟨E,H⟩):=
    fun E H h1 h2 h3=>⟨E,H,.inl ⟨rfl,h1,h2,h3⟩⟩
   generalize LN _ _ i=QQ at hLN hLR ⊢
   simp -implicitDefEqProofs only[SX,sevalprocAttr,Ge,xb,e1,hz,ga,za,AV.cut,ma,wa,UE]
   refine xa hin ?_
   rintro r ⟨E,y,rfl,g2,g3,g4,g8,g9,g10,⟨hy,hy1,hy2⟩ | ⟨rfl,hno⟩⟩
   ·have hne:Uo p.parts q.parts i≠[]:=hma.2 ⟨y,hy,hy1,hy2⟩
    have hs':(ec p.parts q.parts n 0).isSome=(ec p.parts q.parts m (i+1)).isSome:=by
     rw[hs]
     cases hmt:Uo p.parts q.parts i with
     |nil=>exact absurd hmt hne
     |cons a r=>simp
    have e2:(((y:Nat):Int)==256)=false:=ni (by omega)
    have t3:IntKind.u8.wrap ((y:Nat):Int)=(y:Int):=wrap_u8 (by omega)
    have hap:=Wq (A:=[.tok 1 i nl]) (id:=0) (n:=i) (h:= .uq) (nl:=nl) (bytes:=1) (es:=es) rfl (by simp[hlen]) (by unfold pb;omega) (.int .u8 y)
    rw[List.set_cons_zero] at hap
    simp -implicitDefEqProofs only[SP,WP,na,sevalprocAttr,g2,g3,g4,g8,g9,g10,e2,t2,t3,hap,hz,ga,za,AV.cut,ma,wa]
    exact hLN false (es++[.int .u8 y]) _ rfl (by simp[hlen]) hs'
   ·have hne:Uo p.parts q.parts i=[]:=by
     apply Decidable.byContradiction
     intro h
     obtain⟨x,hx,h1,h2⟩:=hma.1 h
     exact hno x hx ⟨h1,h2⟩
    have hs':(ec p.parts q.parts n 0).isSome=false:=by rw[hs,hne];rfl
    have e2:(((256:Nat):Int)==256)=true:=by decide
    simp -implicitDefEqProofs only[SP,WP,na,sevalprocAttr,g2,g3,g4,g8,g9,g10,e2]
    exact hLR _ _ (by simp[Tr.aa]) (by simp[Tr.aa]) hs'
  ·rintro t ⟨nl,es,rfl,hlen,hs⟩
   rw[Nat.sub_self,ec] at hs
   have e1:decide ((n:Int) < (n:Int))=false:=Ha (by omega)
   generalize hQ:(fun r:Ex×St=>r.1.stop=true∧_)=QQ
   simp -implicitDefEqProofs only[SX,sevalprocAttr,Ge,e1,UE]
   subst hQ
   exact⟨rfl,_,_,.inr ⟨nl,es,rfl,by simp[Tr.aa],hs⟩⟩
 have key:Td (fun r=>∃ v,r= .Zb [v,.bool (ec p.parts q.parts n 0).isSome]) (De [.agg [P,i64 p.first],.agg [Q,i64 q.first],i64 n]):=by
  have z1:(uh 1 p.parts==0)=false:=ni (by omega)
  have z2:(uh 1 q.parts==0)=false:=ni (by omega)
  have d0:decide ((n:Int) < 0)=false:=Ha (by omega)
  have d1:decide ((n:Int) > (p.parts.length:Int))=false:=Ha (by omega)
  have d2:decide ((n:Int) > (q.parts.length:Int))=false:=Ha (by omega)
  have hz:(0 < 1)=True:=by simp
  generalize uh 1 p.parts=np at *
  generalize uh 1 q.parts=nq at *
  generalize (ec p.parts q.parts n 0).isSome=b at *
  generalize hQQ:(fun r:PV=>_)=QQ
  simp -implicitDefEqProofs only[De,SX,sevalprocAttr,oj,xb,hP1,hQ1,Vb,Cc,Vc,hc1,hc2,z1,z2,lP,lQ,d0,d1,d2,Vf,hz,ga,za,AV.cut,ma,wa]
  refine xa hloop ?_
  rintro _ ⟨E,H,⟨rfl,h6,h7,hb⟩ | ⟨nl,es,rfl,g8,hb⟩⟩
  ·subst hb
   simp -implicitDefEqProofs only[SX,sevalprocAttr,h6,h7]
   subst hQQ
   exact⟨_,rfl⟩
  ·subst hb
   cases nl <;>
   ·simp -implicitDefEqProofs only[SX,sevalprocAttr,g8]
    subst hQQ
    exact⟨_,rfl⟩
 obtain⟨r,h1,v,rfl⟩:=Fc key
 exact⟨v,h1⟩
end Go.AM.B1
namespace Go.AM.B1
open Go.AM Go.AM.So
abbrev EN (row:List PV) (i:Int):Tr:=(Tr.lf.set 4 (.pv (i64 i))).set 1 (.pv (.rp row 0))
abbrev pG (row:List PV) (i j:Int):Tr:=((Tr.lf.set 5 (.pv (i64 j))).set 4 (.pv (i64 i))).set 1 (.pv (.rp row 0))
def tS (ss:List dc) (i j:Nat):Prop:=(hi:i < ss.length)→(hj:j < ss.length)→ss[i].parts.length < ss[j].parts.length→Pe ss[i] ss[j]=false
theorem eA (call:Za) {S:PV} {ss:List dc} {es:List PV} (hS:Ab S ss es) (Aa:Hc ss) {i:Nat} (hi:i < ss.length):
 Td (fun r=>∃ E,(r=(.exit 2,⟨E,[]⟩)∧E.get 1= .pv (.rp [S] 0)∧E.get 4= .pv (i64 i)∧∀ j,tS ss i j)∨(r=(.ret,⟨E,[]⟩)∧E.get 2= .pv (.bool false)∧E.get 3= .pv (i64 0)∧¬gh ss))
  (gb (fa (ta call Lc) (ga 0 [1,4,5])) oa ⟨pG [S] i 0,[]⟩):=by
 have h32:=Aa.len
 have ln:=hS.Wb
 obtain⟨P,ps,hP,a1⟩:=hS.pd hi
 have okp:=Aa.As _ (List.getElem_mem hi)
 have lP:=hP.parts.Wb
 have hPre:∀ j (hj:j < ss.length),ss[i].parts.length < ss[j].parts.length→Pe ss[i] ss[j]=true→¬gh ss:=fun j hj h1 h2 h=>by
  have:=h i j hi hj h1;rw[h2] at this;cases this
 have hat:∀ j,tS ss i j↔((hj:j < ss.length)→ss[i].parts.length < ss[j].parts.length→Pe ss[i] ss[j]=false):=fun j=>⟨fun h=>h hi,fun h _=>h⟩
 simp only[hat]
 generalize ss[i]=p at *
 refine xa (Nb (g:=fa (ta call Lc) (ga 0 [1,4,5]))
  (fun j t=>t=⟨pG [S] i j,[]⟩∧∀ j',j' < j→(hj:j' < ss.length)→p.parts.length < ss[j'].parts.length→Pe p ss[j']=false)
  ss.length (by unfold oa;omega) _ ⟨rfl,fun j h=>by omega⟩ ?_ ?_) (fun r h=>h.2)
 ·rintro j t hj ⟨rfl,hs⟩
  obtain⟨Q,qs,hQ,a2⟩:=hS.pd hj
  have okq:=Aa.As _ (List.getElem_mem hj)
  have hcm:=fun (h:p.parts.length≤ss[j].parts.length)=>iw hP hQ okp okq (n:=p.parts.length) (Nat.le_refl _) h
  have lQ:=hQ.parts.Wb
  have hbad:=hPre j hj
  have hnext:(p.parts.length < ss[j].parts.length→Pe p ss[j]=false)→∀ j',j' < j+1→(hj:j' < ss.length)→p.parts.length < ss[j'].parts.length→Pe p ss[j']=false:=by
   intro h j' h1 h2
   rcases Nat.lt_or_ge j' j with h3 | h3
   ·exact hs j' h3 h2
   ·have:j'=j:=by omega
    subst this;exact h
  unfold Pe at hbad hnext
  generalize ss[j]=q at *
  have e1:decide ((j:Int) < (ss.length:Int))=true:=Da (by omega)
  have t2:=Ua hj (by unfold maxLen;omega)
  generalize hQQ:LN _ _ j=QQ
  by_cases c1:(p.parts.length:Int) < (q.parts.length:Int)
  ·have d1:=Da c1
   obtain⟨v,hv⟩:=hcm (by omega)
   cases hb:(ec p.parts q.parts p.parts.length 0).isSome with
   |true=>
    rw[hb] at hv
    simp -implicitDefEqProofs only[SX,sevalprocAttr,Lc,ln,e1,Hb,Pa,Vb,Cc,Vc,a1,a2,lP,lQ,d1,hv,pG]
    subst hQQ
    exact⟨_,.inr ⟨rfl,by simp[Tr.aa],by simp[Tr.aa],hbad (by omega) hb⟩⟩
   |false=>
    rw[hb] at hv
    simp -implicitDefEqProofs only[SX,sevalprocAttr,Lc,ln,e1,t2,Hb,Pa,Vb,Cc,Vc,a1,a2,lP,lQ,d1,hv,ga,za,AV.cut,wa,pG]
    subst hQQ
    exact⟨rfl,hnext fun _=>hb⟩
  ·have d1:=Ha c1
   simp -implicitDefEqProofs only[SX,sevalprocAttr,Lc,ln,e1,t2,Hb,Pa,Vb,Cc,Vc,a1,a2,lP,lQ,d1,ga,za,AV.cut,wa,pG]
   subst hQQ
   exact⟨rfl,hnext fun h=>absurd h (by omega)⟩
 ·rintro t ⟨rfl,hs⟩
  have e1:decide ((ss.length:Int) < (ss.length:Int))=false:=Ha (by omega)
  generalize hQ:(fun r:Ex×St=>r.1.stop=true∧_)=QQ
  simp -implicitDefEqProofs only[SX,sevalprocAttr,Lc,e1,ln,Hb,Pa,pG]
  subst hQ
  exact⟨rfl,_,.inl ⟨rfl,by simp[Tr.aa],by simp[Tr.aa],fun j hj=>hs j hj hj⟩⟩
theorem JD {S:PV} {ss:List dc} {es:List PV} (hS:Ab S ss es):
 (¬ Hc ss→Dd [.agg [S]]=some (.Zb [.bool false,i64 84]))∧
 (Hc ss→∃ b,Dd [.agg [S]]=some (.Zb [.bool b,i64 0])∧(b=true↔gh ss)):=by
 have ln:=hS.Wb
 have hS1:(AV.pv S).one=true:=by rcases hS.is with⟨h,_⟩ | h <;> rw[h] <;> rfl
 obtain⟨b,hb,hbb⟩:=Pv hS
 constructor
 ·intro h
  have:b=false:=by cases b with | false=>rfl | true=>exact absurd (hbb.1 rfl) h
  subst this
  simp -implicitDefEqProofs only[Dd,SX,sevalprocAttr,oh,hS1,Pf,hb]
 ·intro Aa
  have h32:=Aa.len
  have:=hbb.2 Aa
  subst this
  have hloop:Td (fun r=>∃ E,(r=(.exit 0,⟨E,[]⟩)∧gh ss)∨(r=(.ret,⟨E,[]⟩)∧E.get 2= .pv (.bool false)∧E.get 3= .pv (i64 0)∧¬gh ss))
   (gb (fa (ta (Ga (fun _=>none) 8) Me) (ga 0 [1,4])) oa ⟨EN [S] 0,[]⟩):=by
   refine xa (Nb (g:=fa (ta (Ga (fun _=>none) 8) Me) (ga 0 [1,4]))
    (fun i t=>t=⟨EN [S] i,[]⟩∧∀ i',i' < i→∀ j,tS ss i' j)
    ss.length (by unfold oa;omega) _ ⟨rfl,fun i h=>by omega⟩ ?_ ?_) (fun r h=>h.2)
   ·rintro i t hi ⟨rfl,hs⟩
    have hin:=eA (Ga (fun _=>none) 8) hS Aa hi
    have e1:decide ((i:Int) < (ss.length:Int))=true:=Da (by omega)
    have t2:=Ua hi (by unfold maxLen;omega)
    generalize hQQ:LN _ _ i=QQ
    simp -implicitDefEqProofs only[SX,sevalprocAttr,Me,xb,ln,e1,Hb,Pa,ga,za,AV.cut,wa,EN]
    refine xa hin ?_
    rintro _ ⟨E,⟨rfl,g1,g4,hp⟩ | ⟨rfl,g2,g3,hp⟩⟩
    ·simp -implicitDefEqProofs only[SX,sevalprocAttr,g1,g4,t2,ga,za,AV.cut,wa]
     subst hQQ
     refine⟨rfl,fun i' hi' j=> ?_⟩
     rcases Nat.lt_or_ge i' i with h3 | h3
     ·exact hs i' h3 j
     ·have:i'=i:=by omega
      subst this;exact hp j
    ·simp -implicitDefEqProofs only[SX,sevalprocAttr]
     subst hQQ
     exact⟨_,.inr ⟨rfl,g2,g3,hp⟩⟩
   ·rintro t ⟨rfl,hs⟩
    have e1:decide ((ss.length:Int) < (ss.length:Int))=false:=Ha (by omega)
    generalize hQ:(fun r:Ex×St=>r.1.stop=true∧_)=QQ
    simp -implicitDefEqProofs only[SX,sevalprocAttr,Me,e1,ln,Hb,Pa,EN]
    subst hQ
    exact⟨rfl,_,.inl ⟨rfl,fun i j hi hj=>hs i hi j hi hj⟩⟩
  have key:Td (fun r=>∃ b,r=PV.Zb [.bool b,i64 0]∧(b=true↔gh ss)) (Dd [.agg [S]]):=by
   generalize hQQ:(fun r:PV=>_)=QQ
   simp -implicitDefEqProofs only[Dd,SX,sevalprocAttr,oh,hS1,Hb,Pa,Pf,hb,xb,ga,za,AV.cut,wa]
   refine xa hloop ?_
   rintro _ ⟨E,⟨rfl,hp⟩ | ⟨rfl,g2,g3,hp⟩⟩
   ·simp -implicitDefEqProofs only[SX,sevalprocAttr]
    subst hQQ
    exact⟨true,rfl,by simpa using hp⟩
   ·simp -implicitDefEqProofs only[SX,sevalprocAttr,g2,g3]
    subst hQQ
    exact⟨false,rfl,by simpa using hp⟩
  obtain⟨r,h1,b,rfl,hb⟩:=Fc key
  exact⟨b,h1,hb⟩
end Go.AM.B1
namespace Go.AM.B1
open Go.AM Go.AM.So
def HI (f:Nat→Bool):List PV:=(List.range 32).map fun i=> .bool (f i)
def qc (d:Int) (f:Nat→Bool):List PV:=i64 d::HI f
def Re (a:Al):PV:= .agg (qc a.1 a.2.toNat.testBit)
theorem vC (f:Nat→Bool):(HI f).length=32:=by simp[HI]
theorem Ig (d:Int) (f:Nat→Bool):(qc d f).length=33:=by rw[qc,List.length_cons,vC]
theorem aN (f:Nat→Bool) {i:Nat} (h:i < (HI f).length):(HI f)[i]= .bool (f i):=by
 simp only[HI,List.getElem_map,List.getElem_range]
theorem zI (f:Nat→Bool) {i:Nat} (h:i < 32):(HI f)[i]? =some (.bool (f i)):=by
 rw[List.getElem?_eq_getElem (by rw[vC];exact h),aN]
theorem GN (f:Nat→Bool) {i:Nat} (h:i < 32) (b:Bool):(HI f).set i (.bool b)=HI fun j=>if j=i then b else f j:=by
 apply List.ext_getElem
 ·rw[List.length_set,vC,vC]
 ·intro j h1 h2
  rw[List.getElem_set,aN,aN]
  by_cases hj:i=j
  ·subst hj;rw[if_pos rfl,if_pos rfl]
  ·rw[if_neg hj,if_neg (Ne.symm hj)]
theorem Kt {f g:Nat→Bool} (h:∀ x,x < 32→f x=g x):HI f=HI g:=by
 unfold HI
 apply List.map_congr_left
 intro x hx
 rw[h x (by simpa using hx)]
theorem HN {f g:Nat→Bool} (h:HI f=HI g) {i:Nat} (hi:i < 32):f i=g i:=by
 have h1:=zI f hi
 rw[h,zI g hi] at h1
 injection h1 with h1;injection h1 with h1;exact h1.symm
theorem bw (d:Int) (f:Nat→Bool):∀ e∈qc d f,(AV.pv e).one=true:=by
 intro e he
 rcases List.mem_cons.1 he with rfl | he
 ·rfl
 ·obtain⟨x,_,rfl⟩:=List.mem_map.1 he
  rfl
def sT (a:Al):Prop:=∃ b:Nat,a.2=(b:Int)∧b < 4294967296
theorem xT {a b:Al} (ha:sT a) (hb:sT b) (h:Re a=Re b):a=b:=by
 obtain⟨d,_⟩:=a;obtain⟨e,_⟩:=b
 obtain⟨m,rfl,hm⟩:=ha
 obtain⟨n,rfl,hn⟩:=hb
 simp only[Re,qc,PV.agg.injEq,List.cons.injEq,PV.int.injEq,true_and,Int.toNat_natCast] at h
 have:m=n:=by
  apply Nat.eq_of_testBit_eq
  intro i
  by_cases hi:i < 32
  ·exact HN h.2 hi
  ·rw[Nat.testBit_lt_two_pow (Nat.lt_of_lt_of_le hm (Nat.pow_le_pow_right (n:=2) (by decide) (by omega:32≤i))),Nat.testBit_lt_two_pow (Nat.lt_of_lt_of_le hn (Nat.pow_le_pow_right (n:=2) (by decide) (by omega:32≤i)))]
 subst this
 have h1:d=e:=by have:=h.1;omega
 rw[h1]
theorem Mx:∀ (l:List Nat) (f g:Nat→Bool),ej (l.map fun _=>0) (l.map fun i=> .bool (f i)) (l.map fun i=> .bool (g i))=some (l.all fun i=>f i==g i)
 | [],f,g=>rfl
 |i::l,f,g=>by
  simp only[List.map_cons,ej,Kr,Option.bind_some,Mx l f g,Option.map_some,List.all_cons]
abbrev qY:Kd:= .row [1,0,0,0,0,0,0,0,0,0,0,0,0,0,0,0,0,0,0,0,0,0,0,0,0,0,0,0,0,0,0,0,0]
theorem VR (a b:Al):∃ c,gk qY (Re a) (Re b)=some c∧(c=true↔Re a=Re b):=by
 have h:=Mx (List.range 32) a.2.toNat.testBit b.2.toNat.testBit
 have h0:(List.range 32).map (fun _=>0)=[0,0,0,0,0,0,0,0,0,0,0,0,0,0,0,0,0,0,0,0,0,0,0,0,0,0,0,0,0,0,0,0]:=by decide
 rw[h0] at h
 refine⟨((a.1:Int)==b.1)&&(List.range 32).all fun i=>a.2.toNat.testBit i==b.2.toNat.testBit i,?_,?_⟩
 ·show ej (1::[0,0,0,0,0,0,0,0,0,0,0,0,0,0,0,0,0,0,0,0,0,0,0,0,0,0,0,0,0,0,0,0]) (i64 a.1::HI _) (i64 b.1::HI _)=_
  unfold ej
  rw[show HI a.2.toNat.testBit=(List.range 32).map fun i=> .bool (a.2.toNat.testBit i) from rfl,show HI b.2.toNat.testBit=(List.range 32).map fun i=> .bool (b.2.toNat.testBit i) from rfl,h]
  simp only[Kr,if_true,Option.bind_some,Option.map_some]
 ·simp only[Bool.and_eq_true,beq_iff_eq,List.all_eq_true,List.mem_range]
  constructor
  ·rintro⟨h1,h2⟩
   rw[Re,Re,h1]
   unfold qc
   rw[Kt h2]
  ·intro h
   simp only[Re,qc,PV.agg.injEq,List.cons.injEq,PV.int.injEq,true_and] at h
   exact⟨h.1,fun i hi=>HN h.2 hi⟩
theorem ZJ (H:List ba) {l:List Al} {i:Nat} (hi:i < l.length):qa H 33 (.pv (.lit 33 (l.map Re))) (i:Int)=some (.pv (.rp (qc l[i].1 l[i].2.toNat.testBit) 0)):=by
 simp only[qa]
 rw[if_pos (by refine⟨trivial,?_⟩;unfold Fa;simp;omega)]
 simp[hi,Re,PV.cells]
theorem iJ (H:List ba) (d:Int) (f:Nat→Bool):ya H true 33 (.pv (.rp (qc d f) 0))=some (.pv (.agg (qc d f))):=by
 have h:=Ig d f
 simp only[ya,Tl,if_true]
 rw[if_pos (by omega),List.drop_zero,List.take_of_length_le (by omega)]
 rfl
theorem yQ {a:Al} {l:List Al} {i k:Nat} (hi:i < l.length):dm a (l.drop i) k=if a=l[i] then some k else dm a (l.drop (i+1)) (k+1):=by
 rw[List.drop_eq_getElem_cons hi,dm]
abbrev RI (v:PV) (row:List PV) (i:Int):Tr:=((Tr.lf.set 5 (.pv (i64 i))).set 3 (.pv (.rp row 0))).set 0 (.pv v)
theorem BR {l:List Al} {a:Al} (hl:l.length≤64) (ha:sT a) (hb:∀ b∈l,sT b):vi [.lit 33 (l.map Re),Re a]=some (i64 (match dm a l 0 with | some k=>(k:Int) | none=> -1)):=by
 have hloop:Td (fun r=>∃ E,(r=(.exit 0,⟨E,[]⟩)∧dm a l 0=none)∨(∃ k,r=(.ret,⟨E,[]⟩)∧dm a l 0=some k∧E.get 4= .pv (i64 (k:Nat))))
  (gb (fa (ta (Ga (fun _=>none) 8) fe) (ga 0 [0,3,5])) oa ⟨RI (.lit 33 (l.map Re)) (qc a.1 a.2.toNat.testBit) 0,[]⟩):=by
  refine xa (Nb (g:=fa (ta (Ga (fun _=>none) 8) fe) (ga 0 [0,3,5]))
   (fun i t=>t=⟨RI (.lit 33 (l.map Re)) (qc a.1 a.2.toNat.testBit) i,[]⟩∧dm a l 0=dm a (l.drop i) i)
   l.length (by unfold oa;omega) _ ⟨rfl,rfl⟩ ?_ ?_) (fun r h=>h.2)
  ·rintro i t hi ⟨rfl,hs⟩
   rw[yQ hi] at hs
   have a1:=ZJ [] hi
   have a2:=iJ [] l[i].1 l[i].2.toNat.testBit
   have a3:=iJ [] a.1 a.2.toNat.testBit
   obtain⟨c,heq,hce⟩:=VR l[i] a
   have heq:gk qY (.agg (qc l[i].1 l[i].2.toNat.testBit)) (.agg (qc a.1 a.2.toNat.testBit))=some c:=heq
   have e1:decide ((i:Int) < (l.length:Int))=true:=Da (by omega)
   have t2:=Ua hi (show l.length≤maxLen by unfold maxLen;omega)
   have ln:Wb [] 0 (.pv (.lit 33 (l.map Re)))=some l.length:=by simp[Wb]
   have hbi:=hb _ (List.getElem_mem hi)
   generalize qc a.1 a.2.toNat.testBit=row at *
   generalize qc l[i].1 l[i].2.toNat.testBit=row2 at *
   generalize l.map Re=es at *
   generalize hQ:LN _ _ i=Q
   by_cases h:a=l[i]
   ·rw[hce.2 (by rw[h])] at heq
    rw[if_pos h] at hs
    simp -implicitDefEqProofs only[SX,sevalprocAttr,fe,e1,ln,a1,a2,a3,heq,RI]
    subst hQ
    exact⟨_,.inr ⟨i,rfl,hs,by simp[Tr.aa]⟩⟩
   ·have:c=false:=by cases c with | false=>rfl | true=>exact absurd (xT hbi ha (hce.1 rfl)).symm h
    rw[this] at heq
    rw[if_neg h] at hs
    simp -implicitDefEqProofs only[SX,sevalprocAttr,fe,e1,t2,ln,a1,a2,a3,heq,ga,za,AV.cut,wa,RI]
    subst hQ
    exact⟨rfl,hs⟩
  ·rintro t ⟨rfl,hs⟩
   rw[List.drop_length,dm] at hs
   have e1:decide ((l.length:Int) < (l.length:Int))=false:=Ha (by omega)
   have ln:Wb [] 0 (.pv (.lit 33 (l.map Re)))=some l.length:=by simp[Wb]
   generalize l.map Re=es at *
   generalize hQ:(fun r:Ex×St=>r.1.stop=true∧_)=Q
   simp -implicitDefEqProofs only[SX,sevalprocAttr,fe,e1,ln,RI]
   subst hQ
   exact⟨rfl,_,.inl ⟨rfl,hs⟩⟩
 have hln:=Ig (a.1:Int) a.2.toNat.testBit
 have hall:∀ e∈qc (a.1:Int) a.2.toNat.testBit,(AV.pv e).one=true:=bw _ _
 have he:Re a= .agg (qc a.1 a.2.toNat.testBit):=rfl
 rw[he]
 generalize qc (a.1:Int) a.2.toNat.testBit=row at *
 have hbx:((row.map AV.pv).length=33∧(row.map AV.pv).all AV.one=true)=True:=by
  refine eq_true ⟨by rw[List.length_map,hln],?_⟩
  rw[List.all_eq_true];intro v hv
  obtain⟨e,he,rfl⟩:=List.mem_map.1 hv
  exact hall e he
 have hmp:Qa (Ub [] 0) (row.map AV.pv)=some row:=wC _ _ _
 generalize l.map Re=es at *
 apply Lk
 simp -implicitDefEqProofs only[vi,SX,sevalprocAttr,wk,hbx,hmp,xb,ga,za,AV.cut,wa]
 refine xa hloop ?_
 rintro _ ⟨E,⟨rfl,hn⟩ | ⟨k,rfl,hk,g⟩⟩
 ·simp -implicitDefEqProofs only[SX,sevalprocAttr,hn]
 ·simp -implicitDefEqProofs only[SX,sevalprocAttr,g,hk]
end Go.AM.B1
namespace Go.AM.B1
open Go.AM Go.AM.So
theorem rh {α:Type}:∀ (vs cs:List α) (off j:Nat),off+vs.length≤cs.length→(na cs off vs)[j]? =if off≤j∧j < off+vs.length then vs[j - off]? else cs[j]?
 | [],cs,off,j,h=>by
   rw[if_neg (by simp only[List.length_nil];omega)];rfl
 |v::vs,cs,off,j,h=>by
  simp only[List.length_cons] at h
  rw[na,rh vs _ (off+1) j (by simp;omega)]
  by_cases h1:off+1≤j∧j < off+1+vs.length
  ·rw[if_pos h1,if_pos (by simp only[List.length_cons];omega),show j - off=(j - (off+1))+1 by omega,List.getElem?_cons_succ]
  ·rw[if_neg h1]
   by_cases h2:off=j
   ·subst h2
    rw[List.getElem?_set_self (by omega),if_pos (by simp only[List.length_cons];omega),Nat.sub_self,List.getElem?_cons_zero]
   ·rw[List.getElem?_set_ne h2,if_neg (by simp only[List.length_cons];omega)]
def Mf (n:Nat) (f:Nat→Bool):List PV:=(List.range n).map fun x=> .bool (f x)
theorem Gg (n:Nat) (f:Nat→Bool):(Mf n f).length=n:=by rw[Mf,List.length_map,List.length_range]
theorem xC (n:Nat) (f:Nat→Bool) {i:Nat} (h:i < (Mf n f).length):(Mf n f)[i]= .bool (f i):=by
 simp only[Mf,List.getElem_map,List.getElem_range]
theorem Kz {n:Nat} (f:Nat→Bool) {i:Nat} (h:i < n):(Mf n f)[i]? =some (.bool (f i)):=by
 rw[List.getElem?_eq_getElem (by rw[Gg];exact h),xC]
theorem tabN_get? (n:Nat) (f:Nat→Bool) (i:Nat):(Mf n f)[i]? =if i < n then some (.bool (f i)) else none:=by
 by_cases h:i < n
 ·rw[if_pos h,Kz f h]
 ·rw[if_neg h,List.getElem?_eq_none (by rw[Gg];omega)]
theorem TC {n:Nat} {f g:Nat→Bool} (h:∀ x,x < n→f x=g x):Mf n f=Mf n g:=by
 unfold Mf
 apply List.map_congr_left
 intro x hx
 rw[h x (by simpa using hx)]
theorem cK (n:Nat) (f:Nat→Bool):∀ e∈Mf n f,(AV.pv e).one=true:=by
 intro e he
 obtain⟨x,_,rfl⟩:=List.mem_map.1 he
 rfl
theorem yE (n:Nat):List.replicate n (PV.bool false)=Mf n fun _=>false:=by
 apply List.ext_getElem
 ·rw[List.length_replicate,Gg]
 ·intro j h1 h2;rw[List.getElem_replicate,xC]
theorem oS (f:Nat→Bool):ae f=Mf 256 f:=rfl
theorem YR {n:Nat} (f g:Nat→Bool) {m off:Nat} (h:off+m≤n):na (Mf n f) off (Mf m g)=Mf n fun j=>if off≤j∧j < off+m then g (j - off) else f j:=by
 apply List.ext_getElem?
 intro j
 rw[rh _ _ _ _ (by rw[Gg,Gg];exact h),Gg,tabN_get?,tabN_get?,tabN_get?]
 by_cases h1:off≤j∧j < off+m
 ·rw[if_pos h1,if_pos (show j - off < m by omega),if_pos (by omega)]
  simp only[if_pos h1]
 ·rw[if_neg h1]
  simp only[if_neg h1]
theorem VE {α β:Type} (f:α→β):∀ (vs cs:List α) (off:Nat),na (cs.map f) off (vs.map f)=(na cs off vs).map f
 | [],cs,off=>rfl
 |v::vs,cs,off=>by
  rw[List.map_cons,na,na,←VE f vs,List.map_set]
theorem sU {A:List ba} {id n off m:Nat} {f g:Nat→Bool} (hg:A[id]? =some (mb (Mf n f))) (h:off+m≤n):
 Ra A m (.ptr id off) (.pv (.agg (Mf m g)))=some (A.set id (mb (Mf n fun j=>if off≤j∧j < off+m then g (j - off) else f j))):=by
 have hc':(AV.pv (.agg (Mf m g))).cells=(Mf m g).map .pv:=rfl
 simp only[Ra,hg,hc']
 rw[if_pos ⟨by rw[List.length_map,Gg],by rw[List.all_eq_true];intro v hv;obtain⟨e,he,rfl⟩:=List.mem_map.1 hv;exact cK _ _ e he⟩,
  if_pos (by rw[List.length_map,Gg];exact h),VE,YR f g h]
def Zn (s:dc) (k x:Nat):Bool:=match s.parts[k]? with
 |some l=>Uf l x
 |none=>false
def gn (s:dc) (k j:Nat):Bool:=decide (j / 256 < k)&&Zn s (j / 256) (j % 256)
def my (s:dc):List PV:=Mf 2048 (gn s 8)
theorem EO (s:dc) {k:Nat} (hk:k < s.parts.length):(fun j=>if k * 256≤j∧j < k * 256+256 then Uf s.parts[k] (j - k * 256) else gn s k j)=gn s (k+1):=by
 funext j
 by_cases h:k * 256≤j∧j < k * 256+256
 ·have h1:j / 256=k:=by omega
  have h2:j % 256=j - k * 256:=by omega
  rw[if_pos h,gn,h1,h2,Zn,List.getElem?_eq_getElem hk]
  simp
 ·rw[if_neg h,gn,gn]
  congr 1
  rw[decide_eq_decide];omega
theorem tT (s:dc) (h8:s.parts.length≤8):Mf 2048 (gn s s.parts.length)=my s:=by
 refine TC fun j hj=> ?_
 unfold gn
 have h2:decide (j / 256 < 8)=true:=decide_eq_true (by omega)
 rw[h2,Bool.true_and]
 by_cases h:j / 256 < s.parts.length
 ·rw[decide_eq_true h,Bool.true_and]
 ·rw[decide_eq_false h,Bool.false_and,Zn,List.getElem?_eq_none (by omega)]
abbrev Ac (i:Nat):List PV:=qc 0 fun j=>decide (j < i)
abbrev Yw (S:PV) (nl:Bool) (es:List PV) (i k:Int):Tr:=(((((Tr.lf.set 9 (.pv (i64 k))).set 8 (.ptr 2 0)).set 7 (.pv (i64 i))).set 6 (.ptr 1 0)).set 5 (.uq 0 nl 2048 es)).set 1 (.pv (.rp [S] 0))
abbrev fx (S:PV) (nl:Bool) (es:List PV) (i:Int):Tr:=(((Tr.lf.set 7 (.pv (i64 i))).set 6 (.ptr 1 0)).set 5 (.uq 0 nl 2048 es)).set 1 (.pv (.rp [S] 0))
theorem XO (call:Za) {S:PV} {ss:List dc} {es:List PV} (hS:Ab S ss es) {i:Nat} (hi:i < ss.length) (h8:ss[i].parts.length≤8) (nl:Bool) (os:List PV) (m:Nat) (F:List PV):
 Td (fun r=>∃ E,r=(.exit 2,⟨E,[.tok 2048 m nl,mb F,mb (my ss[i])]⟩)∧E.get 1= .pv (.rp [S] 0)∧E.get 5= .uq 0 nl 2048 os∧E.get 6= .ptr 1 0∧E.get 7= .pv (i64 i)∧E.get 8= .ptr 2 0)
  (gb (fa (ta call xf) (ga 3 [1,5,6,7,8,9])) oa ⟨Yw S nl os i 0,[.tok 2048 m nl,mb F,mb (Mf 2048 fun _=>false)]⟩):=by
 obtain⟨P,ps,hP,a0⟩:=hS.pd hi
 rw[← tT _ h8]
 have ln:=hP.parts.Wb
 have hz:(Mf 2048 fun _=>false)=Mf 2048 (gn ss[i] 0):=TC fun j _=>by rw[gn];simp
 rw[hz]
 generalize ss[i]=s at *
 refine xa (Nb (g:=fa (ta call xf) (ga 3 [1,5,6,7,8,9]))
  (fun k t=>t=⟨Yw S nl os i k,[.tok 2048 m nl,mb F,mb (Mf 2048 (gn s k))]⟩)
  s.parts.length (by unfold oa;omega) _ rfl ?_ ?_) (fun r h=>h.2)
 ·rintro k t hk rfl
  obtain⟨v,hv,hpt,_⟩:=hP.parts.pd hk []
  have a1:=hP.parts.Hw hv
  have hm:=wo hpt.is hpt.sz
  have hnx:=EO s hk
  have e1:decide ((k:Int) < (s.parts.length:Int))=true:=Da (by omega)
  have t2:IntKind.i64.wrap ((k:Int)+1)=((k+1:Nat):Int):=Ba (by omega)
  have hq:Fa (k:Int) 8:=by unfold Fa;omega
  have t1:((k:Int)).toNat=k:=by simp
  have pl:=Xh (A:=[.tok 2048 m nl,mb F,mb (Mf 2048 (gn s k))]) (id:=2) (es:=Mf 2048 (gn s k)) rfl 0 (k * 256)
  rw[Nat.zero_add] at pl
  have st:=sU (A:=[.tok 2048 m nl,mb F,mb (Mf 2048 (gn s k))]) (id:=2) (n:=2048) (off:=k * 256) (m:=256) (f:=gn s k) (g:=Uf s.parts[k]) rfl (by omega)
  rw[hnx,←oS] at st
  have st2:([.tok 2048 m nl,mb F,mb (Mf 2048 (gn s k))]:List ba).set 2 (mb (Mf 2048 (gn s (k+1))))=[.tok 2048 m nl,mb F,mb (Mf 2048 (gn s (k+1)))]:=rfl
  rw[st2] at st
  have c1:=Vg F 3
  have c2:=Vg (Mf 2048 (gn s (k+1))) 3
  have c0:ma 3 (.tok 2048 m nl)=some (.tok 2048 m nl):=rfl
  have hLN:∀ st:St,st=⟨Yw S nl os i (k+1:Nat),[.tok 2048 m nl,mb F,mb (Mf 2048 (gn s (k+1)))]⟩→LN (fun k t=>t=⟨Yw S nl os i k,[.tok 2048 m nl,mb F,mb (Mf 2048 (gn s k))]⟩)
   (fun r=>∃ E,r=(.exit 2,⟨E,[.tok 2048 m nl,mb F,mb (Mf 2048 (gn s s.parts.length))]⟩)∧E.get 1= .pv (.rp [S] 0)∧E.get 5= .uq 0 nl 2048 os∧E.get 6= .ptr 1 0∧E.get 7= .pv (i64 i)∧E.get 8= .ptr 2 0) k (.norm,st):=fun st h=>h
  generalize LN _ _ k=QQ at hLN ⊢
  generalize mb F=oF at *
  generalize mb (Mf 2048 (gn s k))=oT at *
  generalize mb (Mf 2048 (gn s (k+1)))=oT' at *
  generalize ae (Uf s.parts[k])=T at *
  have hcl:Qa (ma 3) [.tok 2048 m nl,oF,oT']=some [.tok 2048 m nl,oF,oT']:=by simp only[Qa,c0,c1,c2,Option.bind_some,Option.map_some]
  have htk:∀ a b c:ba,([a,b,c]:List ba).take 3=[a,b,c]:=fun a b c=>rfl
  have d0:(0 < 3)=True:=by simp
  have d1:(1 < 3)=True:=by simp
  have d2:(2 < 3)=True:=by simp
  simp -implicitDefEqProofs only[SX,sevalprocAttr,-List.reduceReplicate,xf,Hb,Pa,Vb,Cc,a0,a1,ln,e1,hm,eq_true hq,t1,t2,pl,st,hcl,htk,d0,d1,d2,ga,za,AV.cut,wa,Yw]
  exact hLN _ rfl
 ·rintro t rfl
  have e1:decide ((s.parts.length:Int) < (s.parts.length:Int))=false:=Ha (by omega)
  generalize mb (Mf 2048 (gn s s.parts.length))=oT
  generalize mb F=oF
  generalize hQ:(fun r:Ex×St=>r.1.stop=true∧_)=Q
  simp -implicitDefEqProofs only[SX,sevalprocAttr,-List.reduceReplicate,xf,Hb,Pa,Vb,Cc,a0,ln,e1,Yw]
  subst hQ
  exact⟨rfl,_,rfl,by simp[Tr.aa],by simp[Tr.aa],by simp[Tr.aa],by simp[Tr.aa],by simp[Tr.aa]⟩
end Go.AM.B1
namespace Go.AM.B1
open Go.AM Go.AM.So
theorem gM {i:Nat} (hi:i < 32):(Ac i).set (1+i) (.bool true)=Ac (i+1):=by
 rw[Nat.add_comm 1 i]
 unfold Ac qc
 rw[List.set_cons_succ,GN _ hi]
 congr 1
 refine Kt fun x hx=> ?_
 by_cases h:x=i
 ·subst h;simp
 ·rw[if_neg h,decide_eq_decide];omega
def ef (ss:List dc):List PV:=ss.map fun s=> .agg (my s)
theorem tP (call:Za) {S:PV} {ss:List dc} {es:List PV} (hS:Ab S ss es) (hw:ss.length≤32) (h8:∀ s∈ss,s.parts.length≤8):
 Td (fun r=>∃ E nl,r=(.exit 0,⟨E,[.tok 2048 ss.length nl,mb (Ac ss.length)]⟩)∧E.get 1= .pv (.rp [S] 0)∧E.get 5= .uq 0 nl 2048 (ef ss)∧E.get 6= .ptr 1 0)
  (gb (fa (ta call Af) (ga 2 [1,5,6,7])) oa ⟨fx S true [] 0,[.tok 2048 0 true,mb (Ac 0)]⟩):=by
 have ln:=hS.Wb
 refine xa (Nb (g:=fa (ta call Af) (ga 2 [1,5,6,7]))
  (fun i t=>∃ nl,t=⟨fx S nl (ef (ss.take i)) i,[.tok 2048 i nl,mb (Ac i)]⟩)
  ss.length (by unfold oa;omega) _ ⟨true,rfl⟩ ?_ ?_) (fun r h=>h.2)
 ·rintro i t hi ⟨nl,rfl⟩
  have hin:=XO call hS hi (h8 _ (List.getElem_mem hi)) nl (ef (ss.take i)) i (Ac (i+1))
  have hnext:ef (ss.take (i+1))=ef (ss.take i)++[.agg (my ss[i])]:=by
   have:ss.take (i+1)=ss.take i++[ss[i]]:=by simp
   rw[this,ef,List.map_append];rfl
  have hel:(ef (ss.take i)).length=i:=by rw[ef,List.length_map,List.length_take];omega
  have e1:decide ((i:Int) < (ss.length:Int))=true:=Da (by omega)
  have t2:=Ua hi (show ss.length≤maxLen by unfold maxLen;omega)
  have hq:Fa (i:Int) 32:=by unfold Fa;omega
  have t1:((i:Int)).toNat=i:=by simp
  have m1:i * 1=i:=by omega
  have p1:=Xh (A:=[.tok 2048 i nl,mb (Ac i)]) (id:=1) (es:=Ac i) rfl 0 1
  have p2:=Xh (A:=[.tok 2048 i nl,mb (Ac i)]) (id:=1) (es:=Ac i) rfl 1 i
  rw[Nat.zero_add] at p1
  have st:=qx (A:=[.tok 2048 i nl,mb (Ac i)]) (id:=1) (es:=Ac i) rfl (k:=1+i) (by rw[Ac,Ig];omega) (e:= .bool true) rfl rfl
  rw[gM (by omega)] at st
  have st2:([.tok 2048 i nl,mb (Ac i)]:List ba).set 1 (mb (Ac (i+1)))=[.tok 2048 i nl,mb (Ac (i+1))]:=rfl
  rw[st2] at st
  have hz1:ba.box (List.map AV.pv (List.replicate 2048 (PV.bool false)))=mb (Mf 2048 fun _=>false):=by rw[yE]
  have hcz:(List.replicate 2048 (PV.bool false)).length=2048:=List.length_replicate
  have hld:ya [.tok 2048 i nl,mb (Ac (i+1)),mb (my ss[i])] true 2048 (.ptr 2 0)=some (.pv (.agg (my ss[i]))):=wm (id:=2) rfl (Gg _ _)
  have hap:=qj (A:=[.tok 2048 i nl,mb (Ac (i+1)),mb (my ss[i])]) (id:=0) (n:=i) (sz:=2048) (h:= .uq) (nl:=nl) (ag:=true) (bytes:=2048) (es:=ef (ss.take i)) rfl hel.symm (by unfold pb;omega) (.agg (my ss[i]))
  rw[← hnext,List.set_cons_zero] at hap
  have c1:=Vg (Ac i) 3
  have c1':=Vg (Ac (i+1)) 3
  have c2:=Vg (Ac (i+1)) 2
  have c3:=Vg (Mf 2048 fun _=>false) 3
  have c0:∀ k n nl,ma k (.tok 2048 n nl)=some (.tok 2048 n nl):=fun k n nl=>rfl
  have hon:=cK 2048 (gn ss[i] 8)
  have hol:=Gg 2048 (gn ss[i] 8)
  have hLN:∀ st:St,st=⟨fx S false (ef (ss.take (i+1))) (i+1:Nat),[.tok 2048 (i+1) false,mb (Ac (i+1))]⟩→LN (fun i t=>∃ nl,t=⟨fx S nl (ef (ss.take i)) i,[.tok 2048 i nl,mb (Ac i)]⟩)
   (fun r=>∃ E nl,r=(.exit 0,⟨E,[.tok 2048 ss.length nl,mb (Ac ss.length)]⟩)∧E.get 1= .pv (.rp [S] 0)∧E.get 5= .uq 0 nl 2048 (ef ss)∧E.get 6= .ptr 1 0) i (.norm,st):=fun st h=>⟨false,h⟩
  generalize LN _ _ i=QQ at hLN ⊢
  have hcl3:Qa (ma 3) [.tok 2048 i nl,mb (Ac (i+1)),mb (Mf 2048 fun _=>false)]=some [.tok 2048 i nl,mb (Ac (i+1)),mb (Mf 2048 fun _=>false)]:=by simp only[Qa,c0,c1',c3,Option.bind_some,Option.map_some]
  have hcl2:Qa (ma 2) [.tok 2048 (i+1) false,mb (Ac (i+1))]=some [.tok 2048 (i+1) false,mb (Ac (i+1))]:=by simp only[Qa,c0,c2,Option.bind_some,Option.map_some]
  change ∀ e∈my ss[i],_ at hon
  change (my ss[i]).length=2048 at hol
  generalize my ss[i]=T at *
  generalize ef (ss.take i)=os at *
  generalize ef (ss.take (i+1))=os' at *
  generalize hzs:List.replicate 2048 (PV.bool false)=zs at *
  have hall:((T.map AV.pv).all AV.one)=true:=by
   rw[List.all_eq_true];intro v hv
   obtain⟨e,he,rfl⟩:=List.mem_map.1 hv
   exact hon e he
  have hsr:na (zs.map AV.pv++[]) 0 (T.map AV.pv)=T.map AV.pv:=by
   have:=Yu (T.map AV.pv) (zs.map AV.pv) [] (by simp;omega)
   rw[List.append_nil]
   simpa using this
  have hTl:(T.map AV.pv).length=2048:=by rw[List.length_map,hol]
  have hap2:=uf T
  have htT:T.take 2048=T:=List.take_of_length_le (by omega)
  have hle:(2048≤(zs.map AV.pv++[]).length)=True:=eq_true (by rw[List.append_nil,List.length_map,hcz];exact Nat.le_refl _)
  generalize hoz:mb (Mf 2048 fun _=>false)=oz at *
  generalize mb (Ac i)=o1 at *
  generalize mb (Ac (i+1))=o1' at *
  generalize hoT:mb T=oT at *
  have htk:∀ a b c:ba,([a,b,c]:List ba).take 3=[a,b,c]:=fun a b c=>rfl
  have htk2:∀ a b c:ba,([a,b,c]:List ba).take 2=[a,b]:=fun a b c=>rfl
  have d0:(0 < 3)=True:=by simp
  have d1:(1 < 3)=True:=by simp
  have d2:(2 < 3)=True:=by simp
  have d02:(0 < 2)=True:=by simp
  have d12:(1 < 2)=True:=by simp
  simp -implicitDefEqProofs only[SP,WP,na,sevalprocAttr,-List.reduceReplicate,Af,xb,Hb,Pa,ln,e1,eq_true hq,t1,m1,p1,p2,st,hzs,hz1,hcl3,htk,d0,d1,d2,ga,za,AV.cut,wa,fx]
  refine xa hin ?_
  rintro r ⟨E,rfl,g1,g5,g6,g7,g8⟩
  simp -implicitDefEqProofs only[SP,WP,na,sevalprocAttr,-List.reduceReplicate,g1,g5,g6,g7,g8,hld,hzs,hTl,hall,hsr,hap,hap2,htT,hle,t2,hcl2,htk2,d02,d12,ga,za,AV.cut,wa]
  exact hLN _ rfl
 ·rintro t ⟨nl,rfl⟩
  rw[List.take_length]
  have e1:decide ((ss.length:Int) < (ss.length:Int))=false:=Ha (by omega)
  generalize mb (Ac ss.length)=oF
  generalize ef ss=os
  generalize hQ:(fun r:Ex×St=>r.1.stop=true∧_)=Q
  simp -implicitDefEqProofs only[SX,sevalprocAttr,-List.reduceReplicate,Af,Hb,Pa,ln,e1,fx]
  subst hQ
  exact⟨rfl,_,nl,rfl,by simp[Tr.aa],by simp[Tr.aa],by simp[Tr.aa]⟩
end Go.AM.B1
