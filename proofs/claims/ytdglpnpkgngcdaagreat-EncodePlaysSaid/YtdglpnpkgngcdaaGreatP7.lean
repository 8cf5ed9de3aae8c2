/- What functions of the program compute. -/
import Derived.Test.YtdglpnpkgngcdaaGreatP6
set_option linter.unusedVariables false
set_option linter.unusedSimpArgs false
namespace Go.AM.B1
open Go.AM Go.AM.So
abbrev Ab (es:List PV):ba:= .box (es.map .pv)
theorem Di {A:List ba} {id:Nat} {es:List PV} (hg:A[id]? =some (Ab es)) (o d:Nat):place A d (.ptr id o)=some (.ptr id (o+d)):=by
 simp only[place,hg]
theorem yw {A:List ba} {id:Nat} {es:List PV} (hg:A[id]? =some (Ab es)) {k:Nat} {e:PV} (hk:es[k]? =some e):ta A false 1 (.ptr id k)=some (.pv e):=by
 simp only[ta,hg,Og,Bool.false_eq_true,if_false,List.getElem?_map,hk,Option.map_some]
theorem Ww {A:List ba} {id:Nat} {es:List PV} (hg:A[id]? =some (Ab es)) {k:Nat} (hk:k < es.length) {e:PV} (hc:e.cells=[e]) (h1:(AV.pv e).one=true):Ea A 1 (.ptr id k) (.pv e)=some (A.set id (Ab (es.set k e))):=by
 have hc':(AV.pv e).cells=[.pv e]:=by simp[AV.cells,hc]
 simp only[Ea,hg,hc']
 rw[if_pos ⟨rfl,by simp[h1]⟩,if_pos (by simp;omega),ga,ga]
 show _=some (A.set id (.box ((es.set k e).map .pv)))
 rw[List.map_set]
theorem Ef:∀ (es:List PV),Dd (es.map .pv)=some es
 | []=>rfl
 |e::es=>by rw[List.map_cons,Dd,Ef es];rfl
theorem Rl {A:List ba} {id n:Nat} {es:List PV} (hg:A[id]? =some (Ab es)) (hn:es.length=n):ta A true n (.ptr id 0)=some (.pv (.agg es)):=by
 simp only[ta,hg,Og,if_true]
 rw[if_pos (by simp;omega)]
 have:List.take n (List.drop 0 (es.map AV.pv))=es.map AV.pv:=by rw[List.drop_zero,List.take_of_length_le (by simp;omega)]
 rw[this,ir,Ef]
theorem Zu {α:Type}:∀ (vs cs pre:List α),cs.length=vs.length→ga (pre++cs) pre.length vs=pre++vs
 | [],cs,pre,h=>by cases cs with | nil=>rfl | cons=>simp at h
 |v::vs,cs,pre,h=>by
  cases cs with
  |nil=>simp at h
  |cons c cs=>
   have:(pre++c::cs).set pre.length v=(pre++[v])++cs:=by simp
   rw[ga,this]
   have h2:=Zu vs cs (pre++[v]) (by simpa using h)
   simp only[List.length_append,List.length_singleton] at h2
   rw[h2];simp
theorem Lm {A:List ba} {id n:Nat} {es fs:List PV} (hg:A[id]? =some (Ab es)) (hn:es.length=n) (hf:fs.length=n) (h1:∀ e∈fs,(AV.pv e).one=true):Ea A n (.ptr id 0) (.pv (.agg fs))=some (A.set id (Ab fs)):=by
 have hc':(AV.pv (.agg fs)).cells=fs.map .pv:=rfl
 simp only[Ea,hg,hc']
 rw[if_pos ⟨by simp[hf],by rw[List.all_eq_true];intro v hv;obtain⟨e,he,rfl⟩:=List.mem_map.1 hv;exact h1 e he⟩,if_pos (by simp;omega)]
 have:=Zu (fs.map AV.pv) (es.map AV.pv) [] (by simp;omega)
 simp only[List.nil_append,List.length_nil] at this
 rw[this]
theorem Sg (es:List PV) (n:Nat):oa n (Ab es)=some (Ab es):=by
 have:Pa (AV.cut n deep) (es.map AV.pv)=some (es.map AV.pv):=by
  refine Yk ?_
  intro v hv
  obtain⟨e,_,rfl⟩:=List.mem_map.1 hv
  exact Qa
 simp only[oa,this,Option.map_some]
def Yu (l:List (Int×Int)) (i:Nat):Int:=match i with
 |0=> -2
 |k+1=>match l[k]? with | some p=>p.2 | none=> -2
abbrev bz (v:PV) (i:Int):Tr:=(Tr.lf.set 3 (.pv (i64 i))).set 0 (.pv v)
theorem cy {v:PV} {l:List (Int×Int)} (hv:Vh 2 v (Xd l)) (hw:l.length * 16≤140737488355328):ug [v]=some (.bool (Na 255 (-2) l)):=by
 have hloop:Pd (fun r=>∃ E,(r=(.exit 0,⟨E,[]⟩)∧Na 255 (-2) l=true)∨(r=(.ret,⟨E,[]⟩)∧E.get 2= .pv (.bool false)∧Na 255 (-2) l=false))
  (pb (ma (qa (Ca (fun _=>none) 8) Ob) (na 0 [0,3])) pa ⟨bz v 0,[]⟩):=by
  refine ya (Mb (g:=ma (qa (Ca (fun _=>none) 8) Ob) (na 0 [0,3]))
   (fun i t=>t=⟨bz v i,[]⟩∧ -2≤Yu l i∧Yu l i≤255∧Na 255 (-2) l=Na 255 (Yu l i) (l.drop i))
   l.length (by unfold pa;omega) _ ⟨rfl,Int.le_refl _,by show (-2:Int)≤255;decide,rfl⟩ ?_ ?_) (fun r h=>h.2)
  ·rintro i t hi ⟨rfl,hlz,hla,hs⟩
   have hl:=hv.lit (i:=i) (by simpa using hi)
   subst hl
   have hd:l.drop i=l[i]::l.drop (i+1):=List.drop_eq_getElem_cons hi
   have hnext:Yu l (i+1)=l[i].2:=by simp[Yu,hi]
   have a1:=Wk [] hi
   have hprev:0 < i→∃ a b,Yu l i=b∧IntKind.i64.wrap ((i:Int) - 1)=((i - 1:Nat):Int)∧wa [] 2 (.pv (.lit 2 (Xd l))) ((i - 1:Nat):Int)=some (.pv (.rp [i64 a,i64 b] 0)):=by
    intro h0
    have hi1:i - 1 < l.length:=by omega
    refine⟨l[i - 1].1,l[i - 1].2,?_,?_,Wk [] hi1⟩
    ·obtain⟨k,rfl⟩:∃ k,i=k+1:=⟨i - 1,by omega⟩
     simp[Yu,show k < l.length by omega]
    ·rw[show (i:Int) - 1=((i - 1:Nat):Int) by omega]
     exact Aa (by omega)
   have e1:decide ((i:Int) < (l.length:Int))=true:=Fa (by omega)
   have t2:=eb hi (by unfold maxLen;omega)
   have ln:=Vh.len (sz:=2) (v:= .lit 2 (Xd l)) (es:=Xd l) (.inr rfl) []
   have lp:(Xd l).length=l.length:=by simp[Xd]
   rw[lp] at ln
   rw[hd,Na] at hs
   have l0:∀ a b:PV,ta [] false 1 (.pv (.rp [a,b] 0))=some (.pv a):=fun a b=>rfl
   have l1:∀ a b:PV,ta [] false 1 (.pv (.rp [a,b] 1))=some (.pv b):=fun a b=>rfl
   have p0:∀ a b:PV,place [] 0 (.pv (.rp [a,b] 0))=some (.pv (.rp [a,b] 0)):=fun a b=>rfl
   have p1:∀ a b:PV,place [] 1 (.pv (.rp [a,b] 0))=some (.pv (.rp [a,b] 1)):=fun a b=>rfl
   generalize l[i]=p at *
   generalize hV:Na 255 p.2 (l.drop (i+1))=V at *
   generalize Xd l=es at *
   generalize hQ:LN _ _ i=Q
   by_cases c1:p.1 < 0
   ·have d1:=Fa c1
    simp -implicitDefEqProofs only[SX,sevalprocAttr,-List.reduceReplicate,Ob,e1,ln,a1,l0,l1,p0,p1,d1,bz]
    subst hQ
    rw[d1] at hs
    exact⟨_,.inr ⟨rfl,by simp[Tr.aa],by simpa using hs⟩⟩
   have d1:=Ha c1
   by_cases c2:p.1 > p.2
   ·have d2:=Fa c2
    simp -implicitDefEqProofs only[SX,sevalprocAttr,-List.reduceReplicate,Ob,e1,ln,a1,l0,l1,p0,p1,d1,d2,bz]
    subst hQ
    rw[d2] at hs
    exact⟨_,.inr ⟨rfl,by simp[Tr.aa],by simpa using hs⟩⟩
   have d2:=Ha c2
   by_cases c3:p.2 > 255
   ·have d3:=Fa c3
    simp -implicitDefEqProofs only[SX,sevalprocAttr,-List.reduceReplicate,Ob,e1,ln,a1,l0,l1,p0,p1,d1,d2,d3,bz]
    subst hQ
    rw[d3] at hs
    exact⟨_,.inr ⟨rfl,by simp[Tr.aa],by simpa using hs⟩⟩
   have d3:=Ha c3
   have hs3:∀ b,decide (p.1 - 1≤Yu l i)=b→Na 255 (-2) l=(!b&&V):=by
    intro b hb
    rw[hs,d1,d2,d3,hb];simp
   by_cases h0:0 < i
   ·obtain⟨a,b,hb,t3,a2⟩:=hprev h0
    have e0:decide ((i:Int) > 0)=true:=Fa (by omega)
    rw[hb] at hla hlz hs3
    have t5:IntKind.i64.wrap (b+1)=b+1:=Aa (by omega)
    by_cases c4:p.1≤b+1
    ·have d4:=Fa c4
     have hlow:Na 255 (-2) l=false:=by
      rw[hs3 true (Fa (by omega))];rfl
     simp -implicitDefEqProofs only[SX,sevalprocAttr,-List.reduceReplicate,Ob,e1,ln,a1,l0,l1,p0,p1,d1,d2,d3,e0,t3,t5,a2,d4,bz]
     subst hQ
     exact⟨_,.inr ⟨rfl,by simp[Tr.aa],hlow⟩⟩
    ·have d4:=Ha c4
     simp -implicitDefEqProofs only[SX,sevalprocAttr,-List.reduceReplicate,Ob,e1,ln,a1,l0,l1,p0,p1,d1,d2,d3,e0,t2,t3,t5,a2,d4,na,za,AV.cut,ua,bz]
     subst hQ
     refine⟨rfl,by omega,by omega,?_⟩
     rw[hnext,hV,hs3 false (Ha (by omega))];rfl
   ·have e0:decide ((i:Int) > 0)=false:=Ha (by omega)
    have hi0:Yu l i= -2:=by
     have:i=0:=by omega
     subst this;rfl
    simp -implicitDefEqProofs only[SX,sevalprocAttr,-List.reduceReplicate,Ob,e1,ln,a1,l0,l1,p0,p1,d1,d2,d3,e0,t2,na,za,AV.cut,ua,bz]
    subst hQ
    refine⟨rfl,by omega,by omega,?_⟩
    rw[hnext,hV,hs3 false (Ha (by omega))];rfl
  ·rintro t ⟨rfl,hlz,hla,hs⟩
   rw[List.drop_length,Na] at hs
   have ln:=hv.len []
   rw[show (Xd l).length=l.length by simp[Xd]] at ln
   have e1:decide ((l.length:Int) < (l.length:Int))=false:=Ha (by omega)
   generalize hQ:(fun r:Ex×St=>r.1.stop=true∧_)=Q
   simp -implicitDefEqProofs only[SX,sevalprocAttr,-List.reduceReplicate,Ob,e1,ln,bz]
   subst hQ
   exact⟨rfl,_,.inl ⟨rfl,hs⟩⟩
 apply Km
 simp -implicitDefEqProofs only[ug,SX,sevalprocAttr,-List.reduceReplicate,yj,Fb,na,za,AV.cut,ua]
 refine ya hloop ?_
 rintro _ ⟨E,⟨rfl,hb⟩ | ⟨rfl,hE,hb⟩⟩
 ·simp -implicitDefEqProofs only[SX,sevalprocAttr,-List.reduceReplicate,hb]
 ·simp -implicitDefEqProofs only[SX,sevalprocAttr,-List.reduceReplicate,hE,hb]
def Xe (f:Nat→Bool):List PV:=(List.range 256).map fun x=> .bool (f x)
theorem Ll (f:Nat→Bool):(Xe f).length=256:=by simp[Xe]
theorem IC (f:Nat→Bool) {x:Nat} (h:x < 256):(Xe f)[x]? =some (.bool (f x)):=by simp[Xe,h]
theorem qM (f:Nat→Bool) {x:Nat} (h:x < (Xe f).length):(Xe f)[x]= .bool (f x):=by
 simp only[Xe,List.getElem_map,List.getElem_range]
theorem sW (f:Nat→Bool) {x:Nat} (h:x < 256) (b:Bool):(Xe f).set x (.bool b)=Xe fun y=>if y=x then b else f y:=by
 apply List.ext_getElem
 ·rw[List.length_set,Ll,Ll]
 ·intro j h1 h2
  rw[List.getElem_set,qM,qM]
  by_cases hj:x=j
  ·subst hj;rw[if_pos rfl,if_pos rfl]
  ·rw[if_neg hj,if_neg (Ne.symm hj)]
theorem Ht {f g:Nat→Bool} (h:∀ x,x < 256→f x=g x):Xe f=Xe g:=by
 unfold Xe
 apply List.map_congr_left
 intro x hx
 rw[h x (by simpa using hx)]
theorem fx:List.replicate 256 (PV.bool false)=Xe fun _=>false:=by
 apply List.ext_getElem
 ·rw[List.length_replicate,Ll]
 ·intro j h1 h2;rw[List.getElem_replicate,qM]
theorem ZH (f:Nat→Bool):∀ e∈Xe f,(AV.pv e).one=true:=by
 intro e he
 obtain⟨x,_,rfl⟩:=List.mem_map.1 he
 rfl
def Nq (l:List (Int×Int)) (x:Nat):Bool:=l.any fun p=>decide (p.1≤(x:Int))&&decide ((x:Int)≤p.2)
theorem Wq {l:List (Int×Int)} {x:Nat}:Nq l x=true↔Lj (x:Int) l:=by
 unfold Nq Lj;simp
abbrev NN (v:PV) (i y:Int):Tr:=((((Tr.lf.set 5 (.pv (i64 y))).set 4 (.pv (i64 i))).set 3 (.ptr 1 0)).set 2 (.ptr 0 0)).set 0 (.pv v)
abbrev WB (v:PV) (i:Int):Tr:=(((Tr.lf.set 4 (.pv (i64 i))).set 3 (.ptr 1 0)).set 2 (.ptr 0 0)).set 0 (.pv v)
theorem EF (call:Ta) {v:PV} {l:List (Int×Int)} (hv:Vh 2 v (Xd l)) {i:Nat} (hi:i < l.length) (hp:0≤l[i].1∧l[i].1≤l[i].2∧l[i].2≤255) (Z:List PV):
 Pd (fun r=>∃ E,r=(.exit 2,⟨E,[Ab Z,Ab (Xe (Nq (l.take (i+1))))]⟩)∧E.get 0= .pv v∧E.get 2= .ptr 0 0∧E.get 3= .ptr 1 0∧E.get 4= .pv (i64 i))
  (pb (ma (qa call Ae) (na 2 [0,2,3,4,5])) pa ⟨NN v i l[i].1,[Ab Z,Ab (Xe (Nq (l.take i)))]⟩):=by
 have hl:=hv.lit (i:=i) (by simpa using hi)
 subst hl
 have a1:=fun A=>Wk A hi
 have htk:∀ x,Nq (l.take (i+1)) x=(Nq (l.take i) x||(decide (l[i].1≤(x:Int))&&decide ((x:Int)≤l[i].2))):=by
  intro x
  have:l.take (i+1)=l.take i++[l[i]]:=by simp
  rw[this];simp only[Nq,List.any_append,List.any_cons,List.any_nil,Bool.or_false]
 have l1:∀ (A:List ba) (a b:PV),ta A false 1 (.pv (.rp [a,b] 1))=some (.pv b):=fun A a b=>rfl
 have p1:∀ (A:List ba) (a b:PV),place A 1 (.pv (.rp [a,b] 0))=some (.pv (.rp [a,b] 1)):=fun A a b=>rfl
 generalize l[i]=p at *
 generalize hes:Xd l=es at *
 generalize hf:Nq (l.take i)=f at *
 have hlen:∀ f,(Xe f).length=256:=Ll
 refine ya (Mb (g:=ma (qa call Ae) (na 2 [0,2,3,4,5]))
  (fun k t=>t=⟨NN (.lit 2 es) i (p.1+k),[Ab Z,Ab (Xe fun x=>f x||(decide (p.1≤(x:Int))&&decide ((x:Int) < p.1+k)))]⟩)
  (p.2+1 - p.1).toNat (by unfold pa;omega) _ ?_ ?_ ?_) (fun r h=>h.2)
 ·have:(Xe fun x=>f x||(decide (p.1≤(x:Int))&&decide ((x:Int) < p.1+(0:Nat))))=Xe f:=by
   refine Ht fun x hx=> ?_
   have:(decide (p.1≤(x:Int))&&decide ((x:Int) < p.1+(0:Nat)))=false:=by
    rw[Bool.and_eq_false_iff]
    by_cases h:p.1≤(x:Int)
    ·exact .inr (Ha (by omega))
    ·exact .inl (Ha h)
   rw[this,Bool.or_false]
  rw[this,show p.1+((0:Nat):Int)=p.1 by omega]
 ·rintro k t hk rfl
  obtain⟨y,hy⟩:∃ y:Nat,p.1+(k:Int)=y:=⟨(p.1+k).toNat,by omega⟩
  have hy256:y < 256:=by omega
  have e1:decide ((y:Int)≤p.2)=true:=Fa (by omega)
  have hq:Ga (y:Int) 256:=by unfold Ga;omega
  have t1:((y:Int)).toNat=y:=by simp
  have m1:y * 1=y:=by omega
  have z1:0+y=y:=by omega
  have t2:IntKind.i64.wrap ((y:Int)+1)=((y+1:Nat):Int):=Aa (by omega)
  rw[hy]
  have hnew:(Xe fun x=>f x||(decide (p.1≤(x:Int))&&decide ((x:Int) < (y:Int)))).set y (.bool true)=Xe fun x=>f x||(decide (p.1≤(x:Int))&&decide ((x:Int) < p.1+(k+1:Nat))):=by
   rw[sW _ hy256]
   refine Ht fun x hx=> ?_
   by_cases hxy:x=y
   ·have h1:p.1≤(x:Int):=by omega
    have h2:(x:Int) < p.1+(k+1:Nat):=by omega
    rw[if_pos hxy,Fa h1,Fa h2];simp
   ·have:((x:Int) < (y:Int))=((x:Int) < p.1+(k+1:Nat)):=by apply propext;omega
    rw[if_neg hxy];simp only[this]
  have hl1:=hlen fun x=>f x||(decide (p.1≤(x:Int))&&decide ((x:Int) < (y:Int)))
  generalize hT:(Xe fun x=>f x||(decide (p.1≤(x:Int))&&decide ((x:Int) < (y:Int))))=T at *
  have pl:=Di (A:=[Ab Z,Ab T]) (id:=1) (es:=T) rfl 0 y
  have st:=Ww (A:=[Ab Z,Ab T]) (id:=1) (es:=T) rfl (k:=y) (by omega) (e:= .bool true) rfl rfl
  rw[hnew] at st
  rw[z1] at pl
  have st2:([Ab Z,Ab T]:List ba).set 1 (Ab (Xe fun x=>f x||(decide (p.1≤(x:Int))&&decide ((x:Int) < p.1+(k+1:Nat)))))=[Ab Z,Ab (Xe fun x=>f x||(decide (p.1≤(x:Int))&&decide ((x:Int) < p.1+(k+1:Nat))))]:=rfl
  rw[st2] at st
  have c1:=Sg Z 2
  have c2:=Sg (Xe fun x=>f x||(decide (p.1≤(x:Int))&&decide ((x:Int) < p.1+(k+1:Nat)))) 2
  have hfin:p.1+((k+1:Nat):Int)=((y+1:Nat):Int):=by omega
  generalize hT':(Xe fun x=>f x||(decide (p.1≤(x:Int))&&decide ((x:Int) < p.1+(k+1:Nat))))=T' at *
  have hcl:Pa (oa 2) [Ab Z,Ab T']=some [Ab Z,Ab T']:=by simp[Pa,c1,c2]
  have htk2:([Ab Z,Ab T']:List ba).take 2=[Ab Z,Ab T']:=rfl
  generalize Ab Z=oz at *
  generalize Ab T=ot at *
  generalize hot:Ab T'=ot' at *
  have d0:(0 < 2)=True:=by simp
  have d1:(1 < 2)=True:=by simp
  generalize hQ:LN _ _ k=Q
  simp -implicitDefEqProofs only[SX,sevalprocAttr,-List.reduceReplicate,Ae,e1,a1,l1,p1,eq_true hq,t1,m1,pl,st,t2,hcl,htk2,d0,d1,na,za,AV.cut,ua,NN]
  subst hQ
  show (_:St)=_
  rw[hT',hot,hfin]
 ·rintro t rfl
  have e1:decide (p.1+((p.2+1 - p.1).toNat:Int)≤p.2)=false:=Ha (by omega)
  have hfin:(Xe fun x=>f x||(decide (p.1≤(x:Int))&&decide ((x:Int) < p.1+((p.2+1 - p.1).toNat:Int))))=Xe (Nq (l.take (i+1))):=by
   refine Ht fun x hx=> ?_
   have:((x:Int) < p.1+((p.2+1 - p.1).toNat:Int))=((x:Int)≤p.2):=by apply propext;omega
   rw[htk];simp only[this]
  rw[hfin]
  generalize Ab (Xe (Nq (l.take (i+1))))=ot
  generalize Ab Z=oz
  generalize hQ:(fun r:Ex×St=>r.1.stop=true∧_)=Q
  simp -implicitDefEqProofs only[SX,sevalprocAttr,-List.reduceReplicate,Ae,e1,a1,l1,p1,NN]
  subst hQ
  exact⟨rfl,_,rfl,by simp[Tr.aa],by simp[Tr.aa],by simp[Tr.aa],by simp[Tr.aa]⟩
theorem Rm {l:List (Int×Int)} {last:Int} (h:Na 255 last l=true):∀ p∈l,0≤p.1∧p.1≤p.2∧p.2≤255:=by
 induction l generalizing last with
 |nil=>intro p hp;cases hp
 |cons q l ih=>
  simp only[Na,Bool.and_eq_true,Bool.not_eq_true',Bool.or_eq_false_iff,decide_eq_false_iff_not] at h
  intro p hp
  rcases List.mem_cons.1 hp with rfl | hp
  ·omega
  ·exact ih h.2 p hp
def Fh (l:List (Int×Int)) (x:Nat):Bool:=Na 255 (-2) l&&Nq l x
theorem ur {v:PV} {l:List (Int×Int)} (hv:Vh 2 v (Xd l)) (hw:l.length * 16≤140737488355328):Nc [v]=some (.agg (Xe (Fh l))):=by
 have hvr:=cy hv hw
 have hz:([]++[ba.box (List.map AV.pv (List.replicate 256 (PV.bool false)))]++[ba.box (List.map AV.pv (List.replicate 256 (PV.bool false)))]:List ba)=[Ab (Xe fun _=>false),Ab (Xe fun _=>false)]:=by rw[fx];rfl
 have hz1:ba.box (List.map AV.pv (List.replicate 256 (PV.bool false)))=Ab (Xe fun _=>false):=by rw[fx]
 have hone:∀ f,ta [Ab (Xe fun _=>false),Ab (Xe f)] true 256 (.ptr 1 0)=some (.pv (.agg (Xe f))):=fun f=>Rl (id:=1) rfl (Ll f)
 have hst:∀ f,Ea [Ab (Xe fun _=>false),Ab (Xe f)] 256 (.ptr 0 0) (.pv (.agg (Xe f)))=some [Ab (Xe f),Ab (Xe f)]:=fun f=>Lm (id:=0) rfl (Ll _) (Ll f) (ZH f)
 have hl2:∀ f,ta [Ab (Xe f),Ab (Xe f)] true 256 (.ptr 0 0)=some (.pv (.agg (Xe f))):=fun f=>Rl (id:=0) rfl (Ll f)
 by_cases Ba:Na 255 (-2) l=true
 ·rw[Ba] at hvr
  have hfin:Xe (Fh l)=Xe (Nq l):=Ht fun x _=>by rw[Fh,Ba,Bool.true_and]
  rw[hfin]
  have hpc:=Rm Ba
  have hloop:Pd (fun r=>∃ E,r=(.exit 0,⟨E,[Ab (Xe fun _=>false),Ab (Xe (Nq l))]⟩)∧E.get 2= .ptr 0 0∧E.get 3= .ptr 1 0)
   (pb (ma (qa (Ca (fun _=>none) 8) ze) (na 2 [0,2,3,4])) pa ⟨WB v 0,[Ab (Xe fun _=>false),Ab (Xe fun _=>false)]⟩):=by
   refine ya (Mb (g:=ma (qa (Ca (fun _=>none) 8) ze) (na 2 [0,2,3,4]))
    (fun i t=>t=⟨WB v i,[Ab (Xe fun _=>false),Ab (Xe (Nq (l.take i)))]⟩)
    l.length (by unfold pa;omega) _ rfl ?_ ?_) (fun r h=>h.2)
   ·rintro i t hi rfl
    have hin:=EF (Ca (fun _=>none) 8) hv hi (hpc _ (List.getElem_mem hi)) (Xe fun _=>false)
    have a1:=fun A=>Wk A hi
    have ln:=hv.len
    have hl:=hv.lit (i:=i) (by simpa using hi)
    subst hl
    have lp:(Xd l).length=l.length:=by simp[Xd]
    simp only[lp] at ln
    have l0:∀ (A:List ba) (a b:PV),ta A false 1 (.pv (.rp [a,b] 0))=some (.pv a):=fun A a b=>rfl
    have p0:∀ (A:List ba) (a b:PV),place A 0 (.pv (.rp [a,b] 0))=some (.pv (.rp [a,b] 0)):=fun A a b=>rfl
    have e1:decide ((i:Int) < (l.length:Int))=true:=Fa (by omega)
    have t2:=eb hi (by unfold maxLen;omega)
    have hcl:∀ f g,Pa (oa 2) [Ab (Xe f),Ab (Xe g)]=some [Ab (Xe f),Ab (Xe g)]:=fun f g=>by
     have c1:=Sg (Xe f) 2
     have c2:=Sg (Xe g) 2
     simp only[Pa,c1,c2,Option.bind_some,Option.map_some]
    have hcl1:=hcl (fun _=>false) (Nq (l.take i))
    have hcl2:=hcl (fun _=>false) (Nq (l.take (i+1)))
    have htk2:∀ a b:ba,([a,b]:List ba).take 2=[a,b]:=fun a b=>rfl
    generalize l[i]=p at *
    generalize hes:Xd l=es at *
    have hI:⟨WB (.lit 2 es) (i+1:Nat),[Ab (Xe fun _=>false),Ab (Xe (Nq (l.take (i+1))))]⟩=(⟨WB (.lit 2 es) (i+1:Nat),[Ab (Xe fun _=>false),Ab (Xe (Nq (l.take (i+1))))]⟩:St):=rfl
    have hLN:∀ s:St,s=⟨WB (.lit 2 es) (i+1:Nat),[Ab (Xe fun _=>false),Ab (Xe (Nq (l.take (i+1))))]⟩→LN (fun i t=>t=⟨WB (.lit 2 es) i,[Ab (Xe fun _=>false),Ab (Xe (Nq (l.take i)))]⟩) (fun r=>∃ E,r=(.exit 0,⟨E,[Ab (Xe fun _=>false),Ab (Xe (Nq l))]⟩)∧E.get 2= .ptr 0 0∧E.get 3= .ptr 1 0) i (.norm,s):=fun s h=>h
    generalize Ab (Xe fun _=>false)=oz at *
    generalize Ab (Xe (Nq (l.take i)))=ot at *
    generalize Ab (Xe (Nq (l.take (i+1))))=ot' at *
    have d0:(0 < 2)=True:=by simp
    have d1:(1 < 2)=True:=by simp
    generalize hQ:LN _ _ i=Q at hLN ⊢
    simp -implicitDefEqProofs only[SX,sevalprocAttr,-List.reduceReplicate,ze,Fb,e1,ln,a1,l0,p0,hcl1,htk2,d0,d1,na,za,AV.cut,ua,WB]
    refine ya hin ?_
    rintro r ⟨E,rfl,g0,g2,g3,g4⟩
    simp -implicitDefEqProofs only[SX,sevalprocAttr,-List.reduceReplicate,g0,g2,g3,g4,t2,hcl2,htk2,d0,d1,na,za,AV.cut,ua]
    exact hLN _ rfl
   ·rintro t rfl
    rw[List.take_length]
    have ln:=hv.len
    simp only[show (Xd l).length=l.length by simp[Xd]] at ln
    have e1:decide ((l.length:Int) < (l.length:Int))=false:=Ha (by omega)
    generalize Ab (Xe (Nq l))=ot
    generalize Ab (Xe fun _=>false)=oz
    generalize hQ:(fun r:Ex×St=>r.1.stop=true∧_)=Q
    simp -implicitDefEqProofs only[SX,sevalprocAttr,-List.reduceReplicate,ze,e1,ln,WB]
    subst hQ
    exact⟨rfl,_,rfl,by simp[Tr.aa],by simp[Tr.aa]⟩
  have hcl:Pa (oa 2) [Ab (Xe fun _=>false),Ab (Xe fun _=>false)]=some [Ab (Xe fun _=>false),Ab (Xe fun _=>false)]:=by
   have c1:=Sg (Xe fun _=>false) 2
   simp only[Pa,c1,Option.bind_some,Option.map_some]
  have htk2:∀ a b:ba,([a,b]:List ba).take 2=[a,b]:=fun a b=>rfl
  have hst1:=hst (Nq l)
  have hone1:=hone (Nq l)
  have hl21:=hl2 (Nq l)
  have d0:(0 < 2)=True:=by simp
  have d1:(1 < 2)=True:=by simp
  generalize hzs:List.replicate 256 (PV.bool false)=zs at *
  generalize Ab (Xe fun _=>false)=oz at *
  generalize Ab (Xe (Nq l))=ot at *
  generalize Xe (Nq l)=T at *
  apply Km
  simp -implicitDefEqProofs only[Nc,SX,sevalprocAttr,-List.reduceReplicate,Wg,hzs,hz1,Fb,hvr,hcl,htk2,d0,d1,na,za,AV.cut,ua]
  refine ya hloop ?_
  rintro r ⟨E,rfl,g2,g3⟩
  simp -implicitDefEqProofs only[SX,sevalprocAttr,-List.reduceReplicate,g2,g3,hone1,hst1,hl21]
 ·have hok':Na 255 (-2) l=false:=by simpa using Ba
  rw[hok'] at hvr
  have hfin:Xe (Fh l)=Xe fun _=>false:=Ht fun x _=>by rw[Fh,hok',Bool.false_and]
  rw[hfin]
  have hst1:=hst fun _=>false
  have hone1:=hone fun _=>false
  have hl21:=hl2 fun _=>false
  generalize hzs:List.replicate 256 (PV.bool false)=zs at *
  generalize Ab (Xe fun _=>false)=oz at *
  generalize Xe (fun _=>false)=T at *
  apply Km
  simp -implicitDefEqProofs only[Nc,SX,sevalprocAttr,-List.reduceReplicate,Wg,hzs,hz1,hvr,hone1,hst1,hl21]
end Go.AM.B1
namespace Go.AM.B1
open Go.AM Go.AM.So
def Ai (f:Nat→Bool) (n:Nat):Nat:=(List.range n).countP f
theorem ZQ (f:Nat→Bool):Ai f 0=0:=rfl
theorem gm (f:Nat→Bool) (n:Nat):Ai f (n+1)=Ai f n+if f n then 1 else 0:=by
 unfold Ai
 rw[List.range_succ,List.countP_append]
 simp[List.countP_cons]
theorem HN (f:Nat→Bool) (n:Nat):Ai f n≤n:=by
 have:=List.countP_le_length (p:=f) (l:=List.range n)
 simpa[Ai] using this
theorem VN {f g h:Nat→Bool} (n:Nat) (hf:∀ x,x < n→f x=(g x||h x)) (hd:∀ x,x < n→g x=true→h x=true→False):Ai f n=Ai g n+Ai h n:=by
 induction n with
 |zero=>rfl
 |succ n ih=>
  rw[gm,gm,gm,ih (fun x hx=>hf x (by omega)) (fun x hx=>hd x (by omega)),hf n (by omega)]
  have:=hd n (by omega)
  cases h1:g n <;> cases h2:h n <;> simp_all <;> omega
theorem TN (a b:Nat) (n:Nat):Ai (fun x=>decide (a≤x)&&decide (x < b)) n=min n b - min a (min n b):=by
 induction n with
 |zero=>simp[ZQ]
 |succ n ih=>
  rw[gm,ih]
  by_cases h:a≤n∧n < b
  ·rw[if_pos (by simp[h])];omega
  ·rw[if_neg (by simpa using fun h1=>Nat.le_of_not_lt fun h2=>h ⟨h1,h2⟩)];omega
theorem ZG:∀ (l:List (Int×Int)) (last n:Int),Na 255 last l=true→oc n l=n+Ai (Nq l) 256
 | [],_,n,_=>by
   have:Ai (Nq []) 256=0:=by
    unfold Ai;rw[List.countP_eq_zero];intro x _;simp[Nq]
   rw[this];simp[oc]
 |p::l,last,n,h=>by
  have hp:=Rm h p (by simp)
  have h2:=h
  simp only[Na,Bool.and_eq_true] at h2
  rw[oc,ZG l p.2 _ h2.2]
  have hor:Ai (Nq (p::l)) 256=Ai (fun x=>decide (p.1.toNat≤x)&&decide (x < (p.2+1).toNat)) 256+Ai (Nq l) 256:=by
   apply VN
   ·intro x _
    simp only[Nq,List.any_cons]
    congr 1
    congr 1 <;> (rw[decide_eq_decide];omega)
   ·intro x _ h3 h4
    have:=Fl h2.2 (Wq.1 h4)
    simp at h3;omega
  have hiv:=TN p.1.toNat (p.2+1).toNat 256
  rw[hor,hiv];omega
def KN (l:List (Int×Int)):Nat:=Ai (Fh l) 256
theorem OK {l:List (Int×Int)} (h:Na 255 (-2) l=true):(KN l:Int)=oc 0 l:=by
 rw[ZG l _ _ h]
 have:Fh l=Nq l:=by funext x;rw[Fh,h,Bool.true_and]
 rw[KN,this];omega
abbrev uK (x n:Int):Tr:=((Tr.lf.set 5 (.pv (i64 x))).set 4 (.pv (i64 n))).set 3 (.ptr 0 0)
theorem Ty {v:PV} {l:List (Int×Int)} (hv:Vh 2 v (Xd l)) (hw:l.length * 16≤140737488355328):Hg [v]=some (i64 (KN l)):=by
 have hm:=ur hv hw
 unfold KN
 generalize hf:Fh l=f at *
 have hloop:Pd (fun r=>∃ E H,r=(.exit 0,⟨E,H⟩)∧E.get 4= .pv (i64 (Ai f 256)))
  (pb (ma (qa (Ca (fun _=>none) 8) me) (na 1 [3,4,5])) pa ⟨uK 0 0,[Ab (Xe f)]⟩):=by
  refine ya (Mb (g:=ma (qa (Ca (fun _=>none) 8) me) (na 1 [3,4,5]))
   (fun x t=>t=⟨uK x (Ai f x),[Ab (Xe f)]⟩)
   256 (by unfold pa;omega) _ rfl ?_ ?_) (fun r h=>h.2)
  ·rintro x t hx rfl
   have e1:decide ((x:Int)≤255)=true:=Fa (by omega)
   have hq:Ga (x:Int) 256:=by unfold Ga;omega
   have t1:((x:Int)).toNat=x:=by simp
   have m1:x * 1=x:=by omega
   have z1:0+x=x:=by omega
   have t2:IntKind.i64.wrap ((x:Int)+1)=((x+1:Nat):Int):=Aa (by omega)
   have hle:=HN f x
   have t3:IntKind.i64.wrap ((Ai f x:Int)+1)=(Ai f x:Int)+1:=Aa (by omega)
   have pl:=Di (A:=[Ab (Xe f)]) (id:=0) (es:=Xe f) rfl 0 x
   rw[z1] at pl
   have ld:=yw (A:=[Ab (Xe f)]) (id:=0) (es:=Xe f) rfl (IC f hx)
   have hcl:Pa (oa 1) [Ab (Xe f)]=some [Ab (Xe f)]:=by simp only[Pa,Sg,Option.bind_some,Option.map_some]
   have htk:([Ab (Xe f)]:List ba).take 1=[Ab (Xe f)]:=rfl
   have d0:(0 < 1)=True:=by simp
   have hs:=gm f x
   generalize hO:Ab (Xe f)=O at *
   generalize hQ:LN _ _ x=Q
   cases hfx:f x with
   |true=>
    rw[hfx] at hs ld
    simp -implicitDefEqProofs only[SX,sevalprocAttr,-List.reduceReplicate,me,e1,eq_true hq,t1,m1,pl,ld,t2,t3,hcl,htk,d0,na,za,AV.cut,ua,uK]
    subst hQ
    show (_:St)=_
    rw[hs];rfl
   |false=>
    rw[hfx] at hs ld
    simp -implicitDefEqProofs only[SX,sevalprocAttr,-List.reduceReplicate,me,e1,eq_true hq,t1,m1,pl,ld,t2,hcl,htk,d0,na,za,AV.cut,ua,uK]
    subst hQ
    show (_:St)=_
    rw[hs];rfl
  ·rintro t rfl
   have e1:decide (((256:Nat):Int)≤255)=false:=Ha (by omega)
   generalize Ai f 256=c
   generalize hQ:(fun r:Ex×St=>r.1.stop=true∧_)=Q
   simp -implicitDefEqProofs only[SX,sevalprocAttr,-List.reduceReplicate,me,e1,uK]
   subst hQ
   exact⟨rfl,_,_,rfl,by simp[Tr.aa]⟩
 have hz1:ba.box (List.map AV.pv (List.replicate 256 (PV.bool false)))=Ab (Xe fun _=>false):=by rw[fx]
 have st:Ea [Ab (Xe fun _=>false)] 256 (.ptr 0 0) (.pv (.agg (Xe f)))=some [Ab (Xe f)]:=Lm (id:=0) rfl (Ll _) (Ll f) (ZH f)
 have hcl:Pa (oa 1) [Ab (Xe f)]=some [Ab (Xe f)]:=by simp only[Pa,Sg,Option.bind_some,Option.map_some]
 have htk:([Ab (Xe f)]:List ba).take 1=[Ab (Xe f)]:=rfl
 have d0:(0 < 1)=True:=by simp
 generalize Ai f 256=c at *
 generalize hzs:List.replicate 256 (PV.bool false)=zs at *
 generalize Ab (Xe fun _=>false)=oz at *
 generalize Ab (Xe f)=ot at *
 generalize Xe f=T at *
 apply Km
 simp -implicitDefEqProofs only[Hg,SX,sevalprocAttr,-List.reduceReplicate,ak,hzs,hz1,Fb,hm,st,hcl,htk,d0,na,za,AV.cut,ua]
 refine ya hloop ?_
 rintro r ⟨E,H,rfl,hE⟩
 simp -implicitDefEqProofs only[SX,sevalprocAttr,-List.reduceReplicate,hE]
theorem zB {v:PV} {l:List (Int×Int)} (hv:Vh 2 v (Xd l)) (hw:l.length * 16≤140737488355328) (x:Int):
 Pe [v,i64 x]=some (.bool (decide (0≤x)&&decide (x≤255)&&Fh l x.toNat)):=by
 have hm:=ur hv hw
 generalize hf:Fh l=f at *
 by_cases h0:0≤x
 ·have e0:decide (x≥0)=true:=Fa (by omega)
  rw[show decide (0≤x)=true from Fa h0]
  by_cases h1:x≤255
  ·have e1:decide (x≤255)=true:=Fa h1
   have hq:Ga x 256:=by unfold Ga;omega
   have m1:x.toNat * 1=x.toNat:=by omega
   have hg:=IC f (x:=x.toNat) (by omega)
   have hp:im false 1 (Xe f) x.toNat=some (.bool (f x.toNat)):=by unfold im;exact hg
   rw[e1]
   generalize f x.toNat=b at *
   generalize Xe f=T at *
   simp -implicitDefEqProofs only[Pe,SX,sevalprocAttr,-List.reduceReplicate,dh,e0,e1,hm,eq_true hq,m1,hp,Bool.true_and]
  ·have e1:decide (x≤255)=false:=Ha h1
   simp -implicitDefEqProofs only[Pe,SX,sevalprocAttr,-List.reduceReplicate,dh,e0,e1,Bool.true_and,Bool.false_and]
 ·have e0:decide (x≥0)=false:=Ha (by omega)
  rw[show decide (0≤x)=false from Ha h0]
  simp -implicitDefEqProofs only[Pe,SX,sevalprocAttr,-List.reduceReplicate,dh,e0,Bool.false_and]
abbrev YK (row:List PV) (i n:Int):Tr:=((Tr.lf.set 4 (.pv (i64 i))).set 3 (.pv (i64 n))).set 1 (.pv (.rp row 0))
theorem Gl {e:PV} {s:qc} {P:PV} {ps:List PV} (h:zf e s P ps) (Ba:∀ l∈s.parts,Bd l):sd [e]=some (i64 (wh 1 s.parts)):=by
 obtain⟨rfl,hP⟩:=h
 have hb:=Vl s.parts 1 Ba (by omega) (by omega)
 have hsz:=hP.sz
 have ln:=hP.Tb
 have q0:∀ H (x y:PV),place H 0 (.pv (.rp [x,y] 0))=some (.pv (.rp [x,y] 0)):=fun H x y=>rfl
 have r0:∀ H (x y:PV),ta H false 1 (.pv (.rp [x,y] 0))=some (.pv x):=fun H x y=>rfl
 have hloop:Pd (fun r=>∃ E H,r=(.exit 0,⟨E,H⟩)∧E.get 3= .pv (i64 (wh 1 s.parts)))
  (pb (ma (qa (Ca (fun _=>none) 8) Zd) (na 0 [1,3,4])) pa ⟨YK [P,i64 s.first] 0 1,[]⟩):=by
  refine ya (Mb (g:=ma (qa (Ca (fun _=>none) 8) Zd) (na 0 [1,3,4]))
   (fun i t=>∃ n,t=⟨YK [P,i64 s.first] i n,[]⟩∧1≤n∧n≤1073741825∧wh 1 s.parts=wh n (s.parts.drop i))
   s.parts.length (by unfold pa;unfold maxLen at hsz;omega) _ ⟨1,rfl,by omega,by omega,rfl⟩ ?_ ?_) (fun r h=>h.2)
  ·rintro i t hi ⟨n,rfl,h1,h2,hs⟩
   obtain⟨v,hv,hpt,a1⟩:=hP.Sd hi []
   have hd:s.parts.drop i=s.parts[i]::s.parts.drop (i+1):=List.drop_eq_getElem_cons hi
   have hpo:=Ba s.parts[i] (List.getElem_mem hi)
   have hss:=Ty hpt.is hpt.sz
   rw[OK hpo.2] at hss
   have hsb:=zg hpo
   rw[hd,wh] at hs
   generalize s.parts[i]=l at *
   have hm:=ax h1 h2 hsb.1 hsb.2
   have e1:decide ((i:Int) < (s.parts.length:Int))=true:=Fa (by omega)
   have t2:=eb hi hsz
   have t3:IntKind.i64.wrap (n * oc 0 l)=n * oc 0 l:=Aa (by omega)
   have a2:∀ H (v:PV),ta H false 1 (.pv (.rp [v] 0))=some (.pv v):=fun H v=>rfl
   generalize hQ:LN _ _ i=Q
   by_cases hg:n * oc 0 l > 1073741824
   ·have d1:=Fa hg
    simp -implicitDefEqProofs only[SX,sevalprocAttr,-List.reduceReplicate,Zd,e1,ln,q0,r0,t2,t3,a1,a2,hss,d1,na,za,AV.cut,ua,YK]
    subst hQ
    refine⟨1073741825,rfl,by omega,by omega,?_⟩
    rw[hs];congr 1;split <;> omega
   ·have d1:=Ha hg
    simp -implicitDefEqProofs only[SX,sevalprocAttr,-List.reduceReplicate,Zd,e1,ln,q0,r0,t2,t3,a1,a2,hss,d1,na,za,AV.cut,ua,YK]
    subst hQ
    refine⟨n * oc 0 l,rfl,by omega,by omega,?_⟩
    rw[hs];congr 1;split <;> omega
  ·rintro t ⟨n,rfl,h1,h2,hs⟩
   rw[List.drop_length,wh] at hs
   have e1:decide ((s.parts.length:Int) < (s.parts.length:Int))=false:=Ha (by omega)
   generalize hQ:(fun r:Ex×St=>r.1.stop=true∧_)=Q
   simp -implicitDefEqProofs only[SX,sevalprocAttr,-List.reduceReplicate,Zd,e1,ln,q0,r0,YK]
   subst hQ
   exact⟨rfl,_,_,rfl,by simp[Tr.aa,hs]⟩
 have hP1:(AV.pv P).one=true:=by rcases hP.is with⟨h,_⟩ | h <;> rw[h] <;> rfl
 generalize wh 1 s.parts=n at *
 apply Km
 simp -implicitDefEqProofs only[sd,SX,sevalprocAttr,-List.reduceReplicate,xj,hP1,Fb,na,za,AV.cut,ua]
 refine ya hloop ?_
 rintro r ⟨E,H,rfl,hE⟩
 simp -implicitDefEqProofs only[SX,sevalprocAttr,-List.reduceReplicate,hE]
end Go.AM.B1
namespace Go.AM.B1
open Go.AM Go.AM.So
theorem Pb (H:List ba) (x y:PV):place H 0 (.pv (.rp [x,y] 0))=some (.pv (.rp [x,y] 0)):=rfl
theorem Ue (H:List ba) (x y:PV):place H 1 (.pv (.rp [x,y] 0))=some (.pv (.rp [x,y] 1)):=rfl
theorem wc (H:List ba) (x y:PV):ta H false 1 (.pv (.rp [x,y] 0))=some (.pv x):=rfl
theorem Tf (H:List ba) (x y:PV):ta H false 1 (.pv (.rp [x,y] 1))=some (.pv y):=rfl
theorem Uc (H:List ba) (x y:PV):ta H true 2 (.pv (.rp [x,y] 0))=some (.pv (.agg [x,y])):=rfl
theorem Sa (H:List ba) (x:PV):ta H false 1 (.pv (.rp [x] 0))=some (.pv x):=rfl
theorem Kb (H:List ba) (x:PV):place H 0 (.pv (.rp [x] 0))=some (.pv (.rp [x] 0)):=rfl
theorem Od (H:List ba) (x:PV):ta H true 1 (.pv (.rp [x] 0))=some (.pv (.agg [x])):=rfl
abbrev rG (row:List PV) (i:Int):Tr:=(Tr.lf.set 3 (.pv (i64 i))).set 1 (.pv (.rp row 0))
theorem yq {e:PV} {s:qc} {P:PV} {ps:List PV} (h:zf e s P ps):∃ b,Qb [e]=some (.bool b)∧(b=true↔Ie s):=by
 have hh:=h
 obtain⟨rfl,hP⟩:=h
 have hsz:=hP.sz
 have ln:=hP.Tb
 have hP1:(AV.pv P).one=true:=by rcases hP.is with⟨h,_⟩ | h <;> rw[h] <;> rfl
 by_cases c1:(s.parts.length:Int) < 1
 ·have d1:=Fa c1
  refine⟨false,?_,by simp;intro h;have:=h.lo;omega⟩
  simp -implicitDefEqProofs only[Qb,SX,sevalprocAttr,yb,hP1,Pb,Ue,wc,Tf,ln,d1]
 have d1:=Ha c1
 by_cases c2:(s.parts.length:Int) > 8
 ·have d2:=Fa c2
  refine⟨false,?_,by simp;intro h;have:=h.hi;omega⟩
  simp -implicitDefEqProofs only[Qb,SX,sevalprocAttr,yb,hP1,Pb,Ue,wc,Tf,ln,d1,d2]
 have d2:=Ha c2
 by_cases c3:s.first < 0
 ·have d3:=Fa c3
  refine⟨false,?_,by simp;intro h;have:=h.f0;omega⟩
  simp -implicitDefEqProofs only[Qb,SX,sevalprocAttr,yb,hP1,Pb,Ue,wc,Tf,ln,d1,d2,d3]
 have d3:=Ha c3
 by_cases c4:s.first > 1073741823
 ·have d4:=Fa c4
  refine⟨false,?_,by simp;intro h;have:=h.f1;omega⟩
  simp -implicitDefEqProofs only[Qb,SX,sevalprocAttr,yb,hP1,Pb,Ue,wc,Tf,ln,d1,d2,d3,d4]
 have d4:=Ha c4
 have hloop:Pd (fun r=>∃ E,(r=(.exit 0,⟨E,[]⟩)∧E.get 1= .pv (.rp [P,i64 s.first] 0)∧∀ l∈s.parts,Bd l)∨(r=(.ret,⟨E,[]⟩)∧E.get 2= .pv (.bool false)∧¬∀ l∈s.parts,Bd l))
  (pb (ma (qa (Ca (fun _=>none) 8) mc) (na 0 [1,3])) pa ⟨rG [P,i64 s.first] 0,[]⟩):=by
  refine ya (Mb (g:=ma (qa (Ca (fun _=>none) 8) mc) (na 0 [1,3]))
   (fun i t=>t=⟨rG [P,i64 s.first] i,[]⟩∧∀ l∈s.parts.take i,Bd l)
   s.parts.length (by unfold pa;unfold maxLen at hsz;omega) _ ⟨rfl,by simp⟩ ?_ ?_) (fun r h=>h.2)
  ·rintro i t hi ⟨rfl,hs⟩
   obtain⟨v,hv,hpt,a1⟩:=hP.Sd hi []
   have hmem:=List.getElem_mem hi
   have hnext:Bd s.parts[i]→∀ l∈s.parts.take (i+1),Bd l:=by
    intro h l hl
    have:s.parts.take (i+1)=s.parts.take i++[s.parts[i]]:=by simp
    rw[this] at hl
    rcases List.mem_append.1 hl with h1 | h1
    ·exact hs l h1
    ·simp at h1;subst h1;exact h
   have hvl:=cy hpt.is hpt.sz
   have lv:=hpt.is.len
   simp only[Xd,List.length_map] at lv
   generalize s.parts[i]=l at *
   have e1:decide ((i:Int) < (s.parts.length:Int))=true:=Fa (by omega)
   have t2:=eb hi hsz
   generalize hQ:LN _ _ i=Q
   by_cases h0:l=[]
   ·have e0:((l.length:Int)==0)=true:=by simp[h0]
    simp -implicitDefEqProofs only[SX,sevalprocAttr,mc,e1,ln,Pb,wc,Sa,a1,lv,e0,rG]
    subst hQ
    exact⟨_,.inr ⟨rfl,by simp[Tr.aa],fun h=>(h _ hmem).1 h0⟩⟩
   ·have e0:((l.length:Int)==0)=false:=by
     have:l.length≠0:=fun e=>h0 (List.eq_nil_of_length_eq_zero e)
     exact zi (by omega)
    cases hb:Na 255 (-2) l with
    |true=>
     rw[hb] at hvl
     simp -implicitDefEqProofs only[SX,sevalprocAttr,mc,e1,ln,Pb,wc,Sa,a1,lv,e0,hvl,t2,na,za,AV.cut,ua,rG]
     subst hQ
     exact⟨rfl,hnext ⟨h0,hb⟩⟩
    |false=>
     rw[hb] at hvl
     simp -implicitDefEqProofs only[SX,sevalprocAttr,mc,e1,ln,Pb,wc,Sa,a1,lv,e0,hvl,rG]
     subst hQ
     exact⟨_,.inr ⟨rfl,by simp[Tr.aa],fun h=>by have:=(h _ hmem).2;rw[hb] at this;cases this⟩⟩
  ·rintro t ⟨rfl,hs⟩
   rw[List.take_length] at hs
   have e1:decide ((s.parts.length:Int) < (s.parts.length:Int))=false:=Ha (by omega)
   generalize hQ:(fun r:Ex×St=>r.1.stop=true∧_)=Q
   simp -implicitDefEqProofs only[SX,sevalprocAttr,mc,e1,ln,Pb,wc,rG]
   subst hQ
   exact⟨rfl,_,.inl ⟨rfl,by simp[Tr.aa],hs⟩⟩
 have key:Pd (fun r=>∃ b,r=(.pv (.bool b),([]:List ba))∧(b=true↔Ie s)) (xe (Ca (fun _=>none) 8) yb [.pv (.agg [P,i64 s.first])] []):=by
  generalize hQQ:(fun r:AV×List ba=>_)=QQ
  simp -implicitDefEqProofs only[SX,sevalprocAttr,yb,hP1,Pb,Ue,wc,Tf,ln,d1,d2,d3,d4,Fb,na,za,AV.cut,ua]
  refine ya hloop ?_
  rintro _ ⟨E,⟨rfl,hE,hb⟩ | ⟨rfl,hE,hb⟩⟩
  ·have hct:=Gl hh hb
   have hbd:=Vl s.parts 1 hb (by omega) (by omega)
   have hif:(decide (s.first+wh 1 s.parts - 1≤1073741823)=true)↔Ie s:=by
    rw[decide_eq_true_iff]
    constructor
    ·intro h;exact⟨by omega,by omega,by omega,by omega,hb,h⟩
    ·intro h;exact h.last
   generalize wh 1 s.parts=n at *
   have t3:IntKind.i64.wrap (s.first+n)=s.first+n:=Aa (by omega)
   have t4:IntKind.i64.wrap (s.first+n - 1)=s.first+n - 1:=Aa (by omega)
   simp -implicitDefEqProofs only[SX,sevalprocAttr,hE,Pb,Ue,wc,Tf,Uc,hct,t3,t4]
   subst hQQ
   exact⟨_,rfl,hif⟩
  ·simp -implicitDefEqProofs only[SX,sevalprocAttr,hE]
   subst hQQ
   exact⟨false,rfl,by simp;exact fun h=>hb h.parts⟩
 obtain⟨r,h1,b,rfl,hb⟩:=pc key
 refine⟨b,?_,hb⟩
 generalize hk:xe (Ca (fun _=>none) 8) yb [.pv (.agg [P,i64 s.first])] []=k at h1
 subst h1
 have:Qb [.agg [P,i64 s.first]]=(xe (Ca (fun _=>none) 8) yb [.pv (.agg [P,i64 s.first])] []).bind fun r=>Rb r.2 deep r.1:=rfl
 rw[this,hk];rfl
theorem Jq {e:PV} {s:qc} {P:PV} {ps:List PV} (h:zf e s P ps) (Ba:Ie s):ef [e]=some (i64 (wh 1 s.parts)):=by
 obtain⟨b,hb,hbb⟩:=yq h
 have hc:=Gl h Ba.parts
 have:=hbb.2 Ba
 subst this
 obtain⟨rfl,hP⟩:=h
 have hP1:(AV.pv P).one=true:=by rcases hP.is with⟨h,_⟩ | h <;> rw[h] <;> rfl
 simp -implicitDefEqProofs only[ef,SX,sevalprocAttr,Aj,hP1,Uc,hb,hc]
end Go.AM.B1
namespace Go.AM.B1
open Go.AM Go.AM.So
theorem iR {p q:qc} (hp:Ie p) (hq:Ie q):Hm p q↔¬(q.first≤ai p∧p.first≤ai q):=by
 have h1:=hp.JI
 have h2:=hq.JI
 unfold Hm
 constructor
 ·intro h hn
  by_cases hle:p.first≤q.first
  ·exact h q.first ⟨⟨hle,hn.1⟩,⟨Int.le_refl _,h2⟩⟩
  ·exact h p.first ⟨⟨Int.le_refl _,h1⟩,⟨by omega,hn.2⟩⟩
 ·intro h x hx
  exact h ⟨by omega,by omega⟩
theorem xr {p:qc} (hp:Ie p):1≤wh 1 p.parts∧wh 1 p.parts≤1073741825:=Vl p.parts 1 hp.parts (by omega) (by omega)
abbrev mG (S:PV) (i j:Int):Tr:=((Tr.lf.set 5 (.pv (i64 j))).set 1 (.pv (i64 i))).set 0 (.pv S)
theorem GH {S:PV} {ss:List qc} {es:List PV} (hS:Za S ss es) {i:Nat} (hi:i < ss.length) (Ba:∀ j,j≤i→(h:j < ss.length)→Ie ss[j]):
 ∃ b,Gg [S,i64 i]=some (.bool b)∧(b=false↔∀ j,j < i→(h:j < ss.length)→Hm ss[j] ss[i]):=by
 have hsz:=hS.sz
 obtain⟨P,ps,hP,a0⟩:=hS.Sd hi
 have okp:=Ba i (Nat.le_refl _) hi
 have hcp:=Gl hP okp.parts
 have hbp:=xr okp
 have hap:=fun j (hj:j < i) (h:j < ss.length)=>iR (Ba j (by omega) h) okp
 generalize ss[i]=p at *
 have hloop:Pd (fun r=>∃ E,(r=(.exit 0,⟨E,[]⟩)∧∀ j,j < i→(h:j < ss.length)→Hm ss[j] p)∨(r=(.ret,⟨E,[]⟩)∧E.get 4= .pv (.bool true)∧∃ j,j < i∧∃ h:j < ss.length,¬Hm ss[j] p))
  (pb (ma (qa (Ca (fun _=>none) 8) xd) (na 0 [0,1,5])) pa ⟨mG S i 0,[]⟩):=by
  refine ya (Mb (g:=ma (qa (Ca (fun _=>none) 8) xd) (na 0 [0,1,5]))
   (fun j t=>t=⟨mG S i j,[]⟩∧∀ j',j' < j→(h:j' < ss.length)→Hm ss[j'] p)
   i (by unfold pa;unfold maxLen at hsz;omega) _ ⟨rfl,by intro j h;omega⟩ ?_ ?_) (fun r h=>h.2)
  ·rintro j t hj ⟨rfl,hs⟩
   have hj2:j < ss.length:=by omega
   obtain⟨Q,qs,hQ,b0⟩:=hS.Sd hj2
   have okq:=Ba j (by omega) hj2
   have hcq:=Gl hQ okq.parts
   have hbq:=xr okq
   have haq:=hap j hj hj2
   have hnext:Hm ss[j] p→∀ j',j' < j+1→(h:j' < ss.length)→Hm ss[j'] p:=by
    intro h j' h1 h2
    rcases Nat.lt_or_ge j' j with h3 | h3
    ·exact hs j' h3 h2
    ·have:j'=j:=by omega
     subst this;exact h
   have hex:¬Hm ss[j] p→∃ j,j < i∧∃ h:j < ss.length,¬Hm ss[j] p:=fun h=>⟨j,hj,hj2,h⟩
   have hqf0:=okq.f0
   have hqf1:=okq.f1
   have hpf0:=okp.f0
   have hpf1:=okp.f1
   unfold ai at haq
   generalize hq:ss[j]=q at *
   generalize wh 1 p.parts=np at *
   generalize wh 1 q.parts=nq at *
   have e1:decide ((j:Int) < (i:Int))=true:=Fa (by omega)
   have t2:=eb hj (show i≤maxLen by omega)
   have t3:IntKind.i64.wrap (q.first+nq)=q.first+nq:=Aa (by omega)
   have t4:IntKind.i64.wrap (q.first+nq - 1)=q.first+nq - 1:=Aa (by omega)
   have t5:IntKind.i64.wrap (p.first+np)=p.first+np:=Aa (by omega)
   have t6:IntKind.i64.wrap (p.first+np - 1)=p.first+np - 1:=Aa (by omega)
   generalize hQQ:LN _ _ j=QQ
   by_cases c1:p.first≤q.first+nq - 1
   ·have d1:=Fa c1
    by_cases c2:q.first≤p.first+np - 1
    ·have d2:=Fa c2
     simp -implicitDefEqProofs only[SX,sevalprocAttr,xd,e1,a0,b0,Ue,Tf,Uc,hcp,hcq,t3,t4,t5,t6,d1,d2,mG]
     subst hQQ
     exact⟨_,.inr ⟨rfl,by simp[Tr.aa],hex (fun h=>(haq.1 h) ⟨c1,c2⟩)⟩⟩
    ·have d2:=Ha c2
     simp -implicitDefEqProofs only[SX,sevalprocAttr,xd,e1,a0,b0,Ue,Tf,Uc,hcp,hcq,t2,t3,t4,t5,t6,d1,d2,na,za,AV.cut,ua,mG]
     subst hQQ
     exact⟨rfl,hnext (haq.2 fun h=>c2 h.2)⟩
   ·have d1:=Ha c1
    simp -implicitDefEqProofs only[SX,sevalprocAttr,xd,e1,a0,b0,Ue,Tf,Uc,hcp,hcq,t2,t3,t4,d1,na,za,AV.cut,ua,mG]
    subst hQQ
    exact⟨rfl,hnext (haq.2 fun h=>c1 h.1)⟩
  ·rintro t ⟨rfl,hs⟩
   have e1:decide ((i:Int) < (i:Int))=false:=Ha (by omega)
   generalize hQ:(fun r:Ex×St=>r.1.stop=true∧_)=Q
   simp -implicitDefEqProofs only[SX,sevalprocAttr,xd,e1,mG]
   subst hQ
   exact⟨rfl,_,.inl ⟨rfl,hs⟩⟩
 have key:Pd (fun r=>∃ b,r=PV.bool b∧(b=false↔∀ j,j < i→(h:j < ss.length)→Hm ss[j] p)) (Gg [S,i64 i]):=by
  generalize hQQ:(fun r:PV=>_)=QQ
  simp -implicitDefEqProofs only[Gg,SX,sevalprocAttr,bk,Fb,na,za,AV.cut,ua]
  refine ya hloop ?_
  rintro _ ⟨E,⟨rfl,hb⟩ | ⟨rfl,hE,j,hj,hj2,hb⟩⟩
  ·simp -implicitDefEqProofs only[SX,sevalprocAttr]
   subst hQQ
   exact⟨false,rfl,by simpa using hb⟩
  ·simp -implicitDefEqProofs only[SX,sevalprocAttr,hE]
   subst hQQ
   exact⟨true,rfl,by simp;exact⟨j,hj,hj2,hb⟩⟩
 obtain⟨r,h1,b,rfl,hb⟩:=pc key
 exact⟨b,h1,hb⟩
abbrev nA (row:List PV) (i:Int):Tr:=(Tr.lf.set 3 (.pv (i64 i))).set 1 (.pv (.rp row 0))
theorem aG {ss:List qc}:Fc ss↔ss.length≤32∧∀ i,(hi:i < ss.length)→Ie ss[i]∧∀ j,j < i→(h:j < ss.length)→Hm ss[j] ss[i]:=by
 constructor
 ·intro h
  refine⟨h.len,fun i hi=>⟨h.gu _ (List.getElem_mem hi),fun j hj hj2=> ?_⟩⟩
  exact List.pairwise_iff_getElem.1 h.apart j i hj2 hi hj
 ·rintro⟨h1,h2⟩
  refine⟨h1,?_,?_⟩
  ·intro s hs
   obtain⟨i,hi,rfl⟩:=List.getElem_of_mem hs
   exact (h2 i hi).1
  ·rw[List.pairwise_iff_getElem]
   intro i j hi hj hij
   exact (h2 j hj).2 i hij hi
theorem mw {S:PV} {ss:List qc} {es:List PV} (hS:Za S ss es):∃ b,de [.agg [S]]=some (.bool b)∧(b=true↔Fc ss):=by
 have hsz:=hS.sz
 have ln:=hS.Tb
 have hS1:(AV.pv S).one=true:=by rcases hS.is with⟨h,_⟩ | h <;> rw[h] <;> rfl
 by_cases c1:(ss.length:Int) > 32
 ·have d1:=Fa c1
  refine⟨false,?_,by simp;intro h;have:=h.len;omega⟩
  simp -implicitDefEqProofs only[de,SX,sevalprocAttr,Dh,hS1,Kb,Sa,ln,d1]
 have d1:=Ha c1
 have hloop:Pd (fun r=>∃ E,(r=(.exit 0,⟨E,[]⟩)∧Fc ss)∨(r=(.ret,⟨E,[]⟩)∧E.get 2= .pv (.bool false)∧¬Fc ss))
  (pb (ma (qa (Ca (fun _=>none) 8) Yc) (na 0 [1,3])) pa ⟨nA [S] 0,[]⟩):=by
  refine ya (Mb (g:=ma (qa (Ca (fun _=>none) 8) Yc) (na 0 [1,3]))
   (fun i t=>t=⟨nA [S] i,[]⟩∧∀ k,k < i→(hk:k < ss.length)→Ie ss[k]∧∀ j,j < k→(h:j < ss.length)→Hm ss[j] ss[k])
   ss.length (by unfold pa;unfold maxLen at hsz;omega) _ ⟨rfl,by intro j h;omega⟩ ?_ ?_) (fun r h=>h.2)
  ·rintro i t hi ⟨rfl,hs⟩
   obtain⟨P,ps,hP,a0⟩:=hS.Sd hi
   obtain⟨b,hb,hbb⟩:=yq hP
   have hmt:Ie ss[i]→_:=fun h=>GH hS hi (fun j hj hj2=>by
    rcases Nat.lt_or_ge j i with h1 | h1
    ·exact (hs j h1 hj2).1
    ·have:j=i:=by omega
     subst this;exact h)
   have hnext:Ie ss[i]→(∀ j,j < i→(h:j < ss.length)→Hm ss[j] ss[i])→∀ k,k < i+1→(hk:k < ss.length)→Ie ss[k]∧∀ j,j < k→(h:j < ss.length)→Hm ss[j] ss[k]:=by
    intro h1 h2 k hk hk2
    rcases Nat.lt_or_ge k i with h3 | h3
    ·exact hs k h3 hk2
    ·have:k=i:=by omega
     subst this;exact⟨h1,h2⟩
   have hbad:¬(Ie ss[i]∧∀ j,j < i→(h:j < ss.length)→Hm ss[j] ss[i])→¬Fc ss:=fun h hh=>h ((aG.1 hh).2 i hi)
   generalize hgi:ss[i]=p at *
   have e1:decide ((i:Int) < (ss.length:Int))=true:=Fa (by omega)
   have t2:=eb hi hsz
   generalize hQQ:LN _ _ i=QQ
   cases b with
   |false=>
    have hno:¬Ie p:=fun h=>by have:=hbb.2 h;cases this
    simp -implicitDefEqProofs only[SX,sevalprocAttr,Yc,e1,ln,Kb,Sa,a0,Uc,hb,nA]
    subst hQQ
    exact⟨_,.inr ⟨rfl,by simp[Tr.aa],hbad fun h=>hno h.1⟩⟩
   |true=>
    have okp:=hbb.1 rfl
    obtain⟨c,hc,hcc⟩:=hmt okp
    cases c with
    |false=>
     simp -implicitDefEqProofs only[SX,sevalprocAttr,Yc,e1,ln,Kb,Sa,a0,Uc,hb,hc,t2,na,za,AV.cut,ua,nA]
     subst hQQ
     exact⟨rfl,hnext okp (hcc.1 rfl)⟩
    |true=>
     simp -implicitDefEqProofs only[SX,sevalprocAttr,Yc,e1,ln,Kb,Sa,a0,Uc,hb,hc,nA]
     subst hQQ
     exact⟨_,.inr ⟨rfl,by simp[Tr.aa],hbad fun h=>by have:=hcc.2 h.2;cases this⟩⟩
  ·rintro t ⟨rfl,hs⟩
   have e1:decide ((ss.length:Int) < (ss.length:Int))=false:=Ha (by omega)
   generalize hQ:(fun r:Ex×St=>r.1.stop=true∧_)=Q
   simp -implicitDefEqProofs only[SX,sevalprocAttr,Yc,e1,ln,Kb,Sa,nA]
   subst hQ
   exact⟨rfl,_,.inl ⟨rfl,aG.2 ⟨by omega,fun i hi=>hs i hi hi⟩⟩⟩
 have key:Pd (fun r=>∃ b,r=PV.bool b∧(b=true↔Fc ss)) (de [.agg [S]]):=by
  generalize hQQ:(fun r:PV=>_)=QQ
  simp -implicitDefEqProofs only[de,SX,sevalprocAttr,Dh,hS1,Kb,Sa,ln,d1,Fb,na,za,AV.cut,ua]
  refine ya hloop ?_
  rintro _ ⟨E,⟨rfl,hb⟩ | ⟨rfl,hE,hb⟩⟩
  ·simp -implicitDefEqProofs only[SX,sevalprocAttr]
   subst hQQ
   exact⟨true,rfl,by simpa using hb⟩
  ·simp -implicitDefEqProofs only[SX,sevalprocAttr,hE]
   subst hQQ
   exact⟨false,rfl,by simpa using hb⟩
 obtain⟨r,h1,b,rfl,hb⟩:=pc key
 exact⟨b,h1,hb⟩
end Go.AM.B1
namespace Go.AM.B1
open Go.AM Go.AM.So
abbrev cF (rp rq:List PV) (n i:Int) (nl:Bool) (es:List PV):Tr:=((((Tr.lf.set 9 (.pv (i64 i))).set 8 (.uq 0 nl 1 es)).set 4 (.pv (.rp rq 0))).set 3 (.pv (.rp rp 0))).set 2 (.pv (i64 n))
abbrev vA (rp rq:List PV) (n i x:Int) (nl:Bool) (es:List PV):Tr:=(((((Tr.lf.set 10 (.pv (i64 x))).set 9 (.pv (i64 i))).set 8 (.uq 0 nl 1 es)).set 4 (.pv (.rp rq 0))).set 3 (.pv (.rp rp 0))).set 2 (.pv (i64 n))
theorem nB (call:Ta) {P Q:PV} {a b:PV} {n:Int} {lp lq:List (List (Int×Int))} {ps qs:List PV} (hp:Df P lp ps) (hq:Df Q lq qs) {i:Nat} (hip:i < lp.length) (hiq:i < lq.length) (nl:Bool) (es:List PV) (m:Nat):
 Pd (fun r=>∃ E y,r=(.exit 2,⟨E,[.tok 1 m nl]⟩)∧E.get 2= .pv (i64 n)∧E.get 3= .pv (.rp [P,a] 0)∧E.get 4= .pv (.rp [Q,b] 0)∧E.get 8= .uq 0 nl 1 es∧E.get 9= .pv (i64 i)∧E.get 10= .pv (i64 (y:Nat))∧
  ((y < 256∧Fh lp[i] y=true∧Fh lq[i] y=true)∨(y=256∧∀ x,x < 256→¬(Fh lp[i] x=true∧Fh lq[i] x=true))))
  (pb (ma (qa call Qc) (na 1 [2,3,4,8,9,10])) pa ⟨vA [P,a] [Q,b] n i 0 nl es,[.tok 1 m nl]⟩):=by
 obtain⟨v,hv,hpv,a1⟩:=hp.Sd hip [.tok 1 m nl]
 obtain⟨w,hw,hqw,a2⟩:=hq.Sd hiq [.tok 1 m nl]
 have hhp:=zB hpv.is hpv.sz
 have hhq:=zB hqw.is hqw.sz
 generalize lp[i]=lv at *
 generalize lq[i]=lw at *
 refine ya (Mb (g:=ma (qa call Qc) (na 1 [2,3,4,8,9,10]))
  (fun x t=>t=⟨vA [P,a] [Q,b] n i x nl es,[.tok 1 m nl]⟩∧∀ x',x' < x→¬(Fh lv x'=true∧Fh lw x'=true))
  256 (by unfold pa;omega) _ ⟨rfl,by intro x h;omega⟩ ?_ ?_) (fun r h=>h.2)
 ·rintro x t hx ⟨rfl,hs⟩
  have e1:decide ((x:Int) < 256)=true:=Fa (by omega)
  have t2:IntKind.i64.wrap ((x:Int)+1)=((x+1:Nat):Int):=Aa (by omega)
  have hp1:=hhp (x:Int)
  have hq1:=hhq (x:Int)
  rw[Fa (show (0:Int)≤x by omega),Fa (show (x:Int)≤255 by omega),Int.toNat_natCast,Bool.true_and,Bool.true_and] at hp1 hq1
  have hz:(0 < 1)=True:=by simp
  have hnext:¬(Fh lv x=true∧Fh lw x=true)→∀ x',x' < x+1→¬(Fh lv x'=true∧Fh lw x'=true):=by
   intro h x' hx'
   rcases Nat.lt_or_ge x' x with h1 | h1
   ·exact hs x' h1
   ·have:x'=x:=by omega
    subst this;exact h
  generalize hQ:LN _ _ x=QQ
  cases h1:Fh lv x with
  |false=>
   rw[h1] at hp1
   simp -implicitDefEqProofs only[SX,sevalprocAttr,Qc,e1,Pb,wc,Sa,a1,a2,hp1,t2,hz,na,za,AV.cut,oa,ua,vA]
   subst hQ
   exact⟨rfl,hnext (by rw[h1];simp)⟩
  |true=>
   rw[h1] at hp1
   cases h2:Fh lw x with
   |false=>
    rw[h2] at hq1
    simp -implicitDefEqProofs only[SX,sevalprocAttr,Qc,e1,Pb,wc,Sa,a1,a2,hp1,hq1,t2,hz,na,za,AV.cut,oa,ua,vA]
    subst hQ
    exact⟨rfl,hnext (by rw[h2];simp)⟩
   |true=>
    rw[h2] at hq1
    simp -implicitDefEqProofs only[SX,sevalprocAttr,Qc,e1,Pb,wc,Sa,a1,a2,hp1,hq1,vA]
    subst hQ
    exact⟨_,x,rfl,by simp[Tr.aa],by simp[Tr.aa],by simp[Tr.aa],by simp[Tr.aa],by simp[Tr.aa],by simp[Tr.aa],.inl ⟨hx,h1,h2⟩⟩
 ·rintro t ⟨rfl,hs⟩
  have e1:decide (((256:Nat):Int) < 256)=false:=Ha (by omega)
  generalize hQ:(fun r:Ex×St=>r.1.stop=true∧_)=QQ
  simp -implicitDefEqProofs only[SX,sevalprocAttr,Qc,e1,vA]
  subst hQ
  exact⟨rfl,_,256,rfl,by simp[Tr.aa],by simp[Tr.aa],by simp[Tr.aa],by simp[Tr.aa],by simp[Tr.aa],by simp[Tr.aa],.inr ⟨rfl,hs⟩⟩
theorem ry {p q:List (List (Int×Int))} {i:Nat} (hp:i < p.length) (hq:i < q.length) (vp:Na 255 (-2) p[i]=true) (vq:Na 255 (-2) q[i]=true):
 Vo p q i≠[]↔∃ x,x < 256∧Fh p[i] x=true∧Fh q[i] x=true:=by
 have hmA:Vo p q i=Yf (p[i].length+q[i].length) p[i] q[i]:=by
  unfold Vo
  rw[List.getElem?_eq_getElem hp,List.getElem?_eq_getElem hq]
 have hlaw:=Xt _ _ _ (-2) (-2) vp vq (Nat.le_refl _)
 have hme:=Rm vp
 rw[hmA]
 generalize p[i]=a at *
 generalize q[i]=b at *
 constructor
 ·intro h
  obtain⟨m,hm⟩:=List.exists_mem_of_ne_nil _ h
  have h2:=(hlaw.1 m.1).1 ⟨m,hm,Int.le_refl _,hlaw.2 m hm⟩
  have h0:0≤m.1∧m.1≤255:=by
   obtain⟨pp,hpp,h3,h4⟩:=h2.1
   have:=hme pp hpp;omega
  refine⟨m.1.toNat,by omega,?_,?_⟩
  ·rw[Fh,vp,Bool.true_and,Wq,Int.toNat_of_nonneg h0.1];exact h2.1
  ·rw[Fh,vq,Bool.true_and,Wq,Int.toNat_of_nonneg h0.1];exact h2.2
 ·rintro⟨x,hx,h1,h2⟩ hnil
  rw[Fh,vp,Bool.true_and,Wq] at h1
  rw[Fh,vq,Bool.true_and,Wq] at h2
  have:=(hlaw.1 x).2 ⟨h1,h2⟩
  rw[hnil] at this
  exact Mm _ this
theorem sw {e f:PV} {p q:qc} {P Q:PV} {ps qs:List PV} (hp:zf e p P ps) (hq:zf f q Q qs) (op:Ie p) (oq:Ie q) {n:Nat} (hn:n≤p.parts.length) (hn2:n≤q.parts.length):
 ∃ v,Je [e,f,i64 n]=some (.ic [v,.bool (fc p.parts q.parts n 0).isSome]):=by
 have hc1:=Jq hp op
 have hc2:=Jq hq oq
 have hb1:=xr op
 have hb2:=xr oq
 obtain⟨hP1,hP2⟩:=hp.cw
 obtain⟨hQ1,hQ2⟩:=hq.cw
 have heq:=hp.eq
 have hfq:=hq.eq
 subst heq hfq
 have h8:=op.hi
 have lP:=hp.parts.Tb
 have lQ:=hq.parts.Tb
 have hloop:Pd (fun r=>∃ E H,(r=(.ret,⟨E,H⟩)∧E.get 6= .pv .fa∧E.get 7= .pv (.bool false)∧(fc p.parts q.parts n 0).isSome=false)∨(∃ nl es,r=(.exit 0,⟨E,H⟩)∧E.get 8= .uq 0 nl 1 es∧(fc p.parts q.parts n 0).isSome=true))
  (pb (ma (qa (Ca (fun _=>none) 8) Se) (na 1 [2,3,4,8,9])) pa ⟨cF [P,i64 p.first] [Q,i64 q.first] n 0 true [],[.tok 1 0 true]⟩):=by
  refine ya (Mb (g:=ma (qa (Ca (fun _=>none) 8) Se) (na 1 [2,3,4,8,9]))
   (fun i t=>∃ nl es,t=⟨cF [P,i64 p.first] [Q,i64 q.first] n i nl es,[.tok 1 i nl]⟩∧es.length=i∧(fc p.parts q.parts n 0).isSome=(fc p.parts q.parts (n - i) i).isSome)
   n (by unfold pa;omega) _ ⟨true,[],rfl,rfl,rfl⟩ ?_ ?_) (fun r h=>h.2)
  ·rintro i t hi ⟨nl,es,rfl,hlen,hs⟩
   have hip:i < p.parts.length:=by omega
   have hiq:i < q.parts.length:=by omega
   have hin:=nB (Ca (fun _=>none) 8) (a:=i64 p.first) (b:=i64 q.first) (n:=n) hp.parts hq.parts hip hiq nl es i
   have okv:=op.parts _ (List.getElem_mem hip)
   have okw:=oq.parts _ (List.getElem_mem hiq)
   have hma:=ry hip hiq okv.2 okw.2
   obtain⟨m,hm⟩:∃ m,n - i=m+1:=⟨n - i - 1,by omega⟩
   have hm':n - (i+1)=m:=by omega
   rw[hm,fc] at hs
   have e1:decide ((i:Int) < (n:Int))=true:=Fa (by omega)
   have t2:=eb (i:=i) (n:=n) hi (by unfold maxLen;omega)
   have hz:(0 < 1)=True:=by simp
   have hLN:∀ (nl':Bool) (es':List PV) (s:St),s=⟨cF [P,i64 p.first] [Q,i64 q.first] n (i+1:Nat) nl' es',[.tok 1 (i+1) nl']⟩→es'.length=i+1→(fc p.parts q.parts n 0).isSome=(fc p.parts q.parts m (i+1)).isSome→
    LN (fun i t=>∃ nl es,t=⟨cF [P,i64 p.first] [Q,i64 q.first] n i nl es,[.tok 1 i nl]⟩∧es.length=i∧(fc p.parts q.parts n 0).isSome=(fc p.parts q.parts (n - i) i).isSome)
     (fun r=>∃ E H,(r=(.ret,⟨E,H⟩)∧E.get 6= .pv .fa∧E.get 7= .pv (.bool false)∧(fc p.parts q.parts n 0).isSome=false)∨(∃ nl es,r=(.exit 0,⟨E,H⟩)∧E.get 8= .uq 0 nl 1 es∧(fc p.parts q.parts n 0).isSome=true)) i (.norm,s):=
    fun nl' es' s h1 h2 h3=>⟨nl',es',h1,h2,by rw[hm'];exact h3⟩
   have hLR:∀ (E:Tr) (H:List ba),E.get 6= .pv .fa→E.get 7= .pv (.bool false)→(fc p.parts q.parts n 0).isSome=false→
    LN (fun i t=>∃ nl es,t=⟨cF [P,i64 p.first] [Q,i64 q.first] n i nl es,[.tok 1 i nl]⟩∧es.length=i∧(fc p.parts q.parts n 0).isSome=(fc p.parts q.parts (n - i) i).isSome)
     (fun r=>∃ E H,(r=(.ret,⟨E,H⟩)∧E.get 6= .pv .fa∧E.get 7= .pv (.bool false)∧(fc p.parts q.parts n 0).isSome=false)∨(∃ nl es,r=(.exit 0,⟨E,H⟩)∧E.get 8= .uq 0 nl 1 es∧(fc p.parts q.parts n 0).isSome=true)) i (.ret,⟨E,H⟩):=
    fun E H h1 h2 h3=>⟨E,H,.inl ⟨rfl,h1,h2,h3⟩⟩
   generalize LN _ _ i=QQ at hLN hLR ⊢
   simp -implicitDefEqProofs only[SX,sevalprocAttr,Se,Fb,e1,hz,na,za,AV.cut,oa,ua,cF]
   refine ya hin ?_
   rintro r ⟨E,y,rfl,g2,g3,g4,g8,g9,g10,⟨hy,hy1,hy2⟩ | ⟨rfl,hno⟩⟩
   ·have hne:Vo p.parts q.parts i≠[]:=hma.2 ⟨y,hy,hy1,hy2⟩
    have hs':(fc p.parts q.parts n 0).isSome=(fc p.parts q.parts m (i+1)).isSome:=by
     rw[hs]
     cases hmt:Vo p.parts q.parts i with
     |nil=>exact absurd hmt hne
     |cons a r=>simp
    have e2:(((y:Nat):Int)==256)=false:=zi (by omega)
    have t3:IntKind.u8.wrap ((y:Nat):Int)=(y:Int):=wrap_u8 (by omega)
    have hap:=Yq (A:=[.tok 1 i nl]) (id:=0) (n:=i) (h:= .uq) (nl:=nl) (bytes:=1) (es:=es) rfl (by simp[hlen]) (by unfold ab;omega) (.int .u8 y)
    rw[List.set_cons_zero] at hap
    simp -implicitDefEqProofs only[SP,WP,ga,sevalprocAttr,g2,g3,g4,g8,g9,g10,e2,t2,t3,hap,hz,na,za,AV.cut,oa,ua]
    exact hLN false (es++[.int .u8 y]) _ rfl (by simp[hlen]) hs'
   ·have hne:Vo p.parts q.parts i=[]:=by
     apply Decidable.byContradiction
     intro h
     obtain⟨x,hx,h1,h2⟩:=hma.1 h
     exact hno x hx ⟨h1,h2⟩
    have hs':(fc p.parts q.parts n 0).isSome=false:=by rw[hs,hne];rfl
    have e2:(((256:Nat):Int)==256)=true:=by decide
    simp -implicitDefEqProofs only[SP,WP,ga,sevalprocAttr,g2,g3,g4,g8,g9,g10,e2]
    exact hLR _ _ (by simp[Tr.aa]) (by simp[Tr.aa]) hs'
  ·rintro t ⟨nl,es,rfl,hlen,hs⟩
   rw[Nat.sub_self,fc] at hs
   have e1:decide ((n:Int) < (n:Int))=false:=Ha (by omega)
   generalize hQ:(fun r:Ex×St=>r.1.stop=true∧_)=QQ
   simp -implicitDefEqProofs only[SX,sevalprocAttr,Se,e1,cF]
   subst hQ
   exact⟨rfl,_,_,.inr ⟨nl,es,rfl,by simp[Tr.aa],hs⟩⟩
 have key:Pd (fun r=>∃ v,r= .ic [v,.bool (fc p.parts q.parts n 0).isSome]) (Je [.agg [P,i64 p.first],.agg [Q,i64 q.first],i64 n]):=by
  have z1:(wh 1 p.parts==0)=false:=zi (by omega)
  have z2:(wh 1 q.parts==0)=false:=zi (by omega)
  have d0:decide ((n:Int) < 0)=false:=Ha (by omega)
  have d1:decide ((n:Int) > (p.parts.length:Int))=false:=Ha (by omega)
  have d2:decide ((n:Int) > (q.parts.length:Int))=false:=Ha (by omega)
  have hz:(0 < 1)=True:=by simp
  generalize wh 1 p.parts=np at *
  generalize wh 1 q.parts=nq at *
  generalize (fc p.parts q.parts n 0).isSome=b at *
  generalize hQQ:(fun r:PV=>_)=QQ
  simp -implicitDefEqProofs only[Je,SX,sevalprocAttr,mj,Fb,hP1,hQ1,Pb,wc,Uc,hc1,hc2,z1,z2,lP,lQ,d0,d1,d2,ff,hz,na,za,AV.cut,oa,ua]
  refine ya hloop ?_
  rintro _ ⟨E,H,⟨rfl,h6,h7,hb⟩ | ⟨nl,es,rfl,g8,hb⟩⟩
  ·subst hb
   simp -implicitDefEqProofs only[SX,sevalprocAttr,h6,h7]
   subst hQQ
   exact⟨_,rfl⟩
  ·subst hb
   cases nl <;>
   ·simp -implicitDefEqProofs only[SX,sevalprocAttr,g8]
    subst hQQ
    exact⟨_,rfl⟩
 obtain⟨r,h1,v,rfl⟩:=pc key
 exact⟨v,h1⟩
end Go.AM.B1
namespace Go.AM.B1
open Go.AM Go.AM.So
abbrev sO (row:List PV) (i:Int):Tr:=(Tr.lf.set 4 (.pv (i64 i))).set 1 (.pv (.rp row 0))
abbrev CG (row:List PV) (i j:Int):Tr:=((Tr.lf.set 5 (.pv (i64 j))).set 4 (.pv (i64 i))).set 1 (.pv (.rp row 0))
def uR (ss:List qc) (i j:Nat):Prop:=(hi:i < ss.length)→(hj:j < ss.length)→ss[i].parts.length < ss[j].parts.length→cf ss[i] ss[j]=false
theorem yA (call:Ta) {S:PV} {ss:List qc} {es:List PV} (hS:Za S ss es) (Ba:Fc ss) {i:Nat} (hi:i < ss.length):
 Pd (fun r=>∃ E,(r=(.exit 2,⟨E,[]⟩)∧E.get 1= .pv (.rp [S] 0)∧E.get 4= .pv (i64 i)∧∀ j,uR ss i j)∨(r=(.ret,⟨E,[]⟩)∧E.get 2= .pv (.bool false)∧E.get 3= .pv (i64 0)∧¬bh ss))
  (pb (ma (qa call Sc) (na 0 [1,4,5])) pa ⟨CG [S] i 0,[]⟩):=by
 have h32:=Ba.len
 have ln:=hS.Tb
 obtain⟨P,ps,hP,a1⟩:=hS.Sd hi
 have okp:=Ba.gu _ (List.getElem_mem hi)
 have lP:=hP.parts.Tb
 have hPre:∀ j (hj:j < ss.length),ss[i].parts.length < ss[j].parts.length→cf ss[i] ss[j]=true→¬bh ss:=fun j hj h1 h2 h=>by
  have:=h i j hi hj h1;rw[h2] at this;cases this
 have hat:∀ j,uR ss i j↔((hj:j < ss.length)→ss[i].parts.length < ss[j].parts.length→cf ss[i] ss[j]=false):=fun j=>⟨fun h=>h hi,fun h _=>h⟩
 simp only[hat]
 generalize ss[i]=p at *
 refine ya (Mb (g:=ma (qa call Sc) (na 0 [1,4,5]))
  (fun j t=>t=⟨CG [S] i j,[]⟩∧∀ j',j' < j→(hj:j' < ss.length)→p.parts.length < ss[j'].parts.length→cf p ss[j']=false)
  ss.length (by unfold pa;omega) _ ⟨rfl,fun j h=>by omega⟩ ?_ ?_) (fun r h=>h.2)
 ·rintro j t hj ⟨rfl,hs⟩
  obtain⟨Q,qs,hQ,a2⟩:=hS.Sd hj
  have okq:=Ba.gu _ (List.getElem_mem hj)
  have hcm:=fun (h:p.parts.length≤ss[j].parts.length)=>sw hP hQ okp okq (n:=p.parts.length) (Nat.le_refl _) h
  have lQ:=hQ.parts.Tb
  have hbad:=hPre j hj
  have hnext:(p.parts.length < ss[j].parts.length→cf p ss[j]=false)→∀ j',j' < j+1→(hj:j' < ss.length)→p.parts.length < ss[j'].parts.length→cf p ss[j']=false:=by
   intro h j' h1 h2
   rcases Nat.lt_or_ge j' j with h3 | h3
   ·exact hs j' h3 h2
   ·have:j'=j:=by omega
    subst this;exact h
  unfold cf at hbad hnext
  generalize ss[j]=q at *
  have e1:decide ((j:Int) < (ss.length:Int))=true:=Fa (by omega)
  have t2:=eb hj (by unfold maxLen;omega)
  generalize hQQ:LN _ _ j=QQ
  by_cases c1:(p.parts.length:Int) < (q.parts.length:Int)
  ·have d1:=Fa c1
   obtain⟨v,hv⟩:=hcm (by omega)
   cases hb:(fc p.parts q.parts p.parts.length 0).isSome with
   |true=>
    rw[hb] at hv
    simp -implicitDefEqProofs only[SX,sevalprocAttr,Sc,ln,e1,Kb,Sa,Pb,wc,Uc,a1,a2,lP,lQ,d1,hv,CG]
    subst hQQ
    exact⟨_,.inr ⟨rfl,by simp[Tr.aa],by simp[Tr.aa],hbad (by omega) hb⟩⟩
   |false=>
    rw[hb] at hv
    simp -implicitDefEqProofs only[SX,sevalprocAttr,Sc,ln,e1,t2,Kb,Sa,Pb,wc,Uc,a1,a2,lP,lQ,d1,hv,na,za,AV.cut,ua,CG]
    subst hQQ
    exact⟨rfl,hnext fun _=>hb⟩
  ·have d1:=Ha c1
   simp -implicitDefEqProofs only[SX,sevalprocAttr,Sc,ln,e1,t2,Kb,Sa,Pb,wc,Uc,a1,a2,lP,lQ,d1,na,za,AV.cut,ua,CG]
   subst hQQ
   exact⟨rfl,hnext fun h=>absurd h (by omega)⟩
 ·rintro t ⟨rfl,hs⟩
  have e1:decide ((ss.length:Int) < (ss.length:Int))=false:=Ha (by omega)
  generalize hQ:(fun r:Ex×St=>r.1.stop=true∧_)=QQ
  simp -implicitDefEqProofs only[SX,sevalprocAttr,Sc,e1,ln,Kb,Sa,CG]
  subst hQ
  exact⟨rfl,_,.inl ⟨rfl,by simp[Tr.aa],by simp[Tr.aa],fun j hj=>hs j hj hj⟩⟩
theorem fD {S:PV} {ss:List qc} {es:List PV} (hS:Za S ss es):
 (¬ Fc ss→Ld [.agg [S]]=some (.ic [.bool false,i64 84]))∧
 (Fc ss→∃ b,Ld [.agg [S]]=some (.ic [.bool b,i64 0])∧(b=true↔bh ss)):=by
 have ln:=hS.Tb
 have hS1:(AV.pv S).one=true:=by rcases hS.is with⟨h,_⟩ | h <;> rw[h] <;> rfl
 obtain⟨b,hb,hbb⟩:=mw hS
 constructor
 ·intro h
  have:b=false:=by cases b with | false=>rfl | true=>exact absurd (hbb.1 rfl) h
  subst this
  simp -implicitDefEqProofs only[Ld,SX,sevalprocAttr,kh,hS1,Od,hb]
 ·intro Ba
  have h32:=Ba.len
  have:=hbb.2 Ba
  subst this
  have hloop:Pd (fun r=>∃ E,(r=(.exit 0,⟨E,[]⟩)∧bh ss)∨(r=(.ret,⟨E,[]⟩)∧E.get 2= .pv (.bool false)∧E.get 3= .pv (i64 0)∧¬bh ss))
   (pb (ma (qa (Ca (fun _=>none) 8) Me) (na 0 [1,4])) pa ⟨sO [S] 0,[]⟩):=by
   refine ya (Mb (g:=ma (qa (Ca (fun _=>none) 8) Me) (na 0 [1,4]))
    (fun i t=>t=⟨sO [S] i,[]⟩∧∀ i',i' < i→∀ j,uR ss i' j)
    ss.length (by unfold pa;omega) _ ⟨rfl,fun i h=>by omega⟩ ?_ ?_) (fun r h=>h.2)
   ·rintro i t hi ⟨rfl,hs⟩
    have hin:=yA (Ca (fun _=>none) 8) hS Ba hi
    have e1:decide ((i:Int) < (ss.length:Int))=true:=Fa (by omega)
    have t2:=eb hi (by unfold maxLen;omega)
    generalize hQQ:LN _ _ i=QQ
    simp -implicitDefEqProofs only[SX,sevalprocAttr,Me,Fb,ln,e1,Kb,Sa,na,za,AV.cut,ua,sO]
    refine ya hin ?_
    rintro _ ⟨E,⟨rfl,g1,g4,hp⟩ | ⟨rfl,g2,g3,hp⟩⟩
    ·simp -implicitDefEqProofs only[SX,sevalprocAttr,g1,g4,t2,na,za,AV.cut,ua]
     subst hQQ
     refine⟨rfl,fun i' hi' j=> ?_⟩
     rcases Nat.lt_or_ge i' i with h3 | h3
     ·exact hs i' h3 j
     ·have:i'=i:=by omega
      subst this;exact hp j
    ·simp -implicitDefEqProofs only[SX,sevalprocAttr]
     subst hQQ
     exact⟨_,.inr ⟨rfl,g2,g3,hp⟩⟩
   ·rintro t ⟨rfl,hs⟩
    have e1:decide ((ss.length:Int) < (ss.length:Int))=false:=Ha (by omega)
    generalize hQ:(fun r:Ex×St=>r.1.stop=true∧_)=QQ
    simp -implicitDefEqProofs only[SX,sevalprocAttr,Me,e1,ln,Kb,Sa,sO]
    subst hQ
    exact⟨rfl,_,.inl ⟨rfl,fun i j hi hj=>hs i hi j hi hj⟩⟩
  have key:Pd (fun r=>∃ b,r=PV.ic [.bool b,i64 0]∧(b=true↔bh ss)) (Ld [.agg [S]]):=by
   generalize hQQ:(fun r:PV=>_)=QQ
   simp -implicitDefEqProofs only[Ld,SX,sevalprocAttr,kh,hS1,Kb,Sa,Od,hb,Fb,na,za,AV.cut,ua]
   refine ya hloop ?_
   rintro _ ⟨E,⟨rfl,hp⟩ | ⟨rfl,g2,g3,hp⟩⟩
   ·simp -implicitDefEqProofs only[SX,sevalprocAttr]
    subst hQQ
    exact⟨true,rfl,by simpa using hp⟩
   ·simp -implicitDefEqProofs only[SX,sevalprocAttr,g2,g3]
    subst hQQ
    exact⟨false,rfl,by simpa using hp⟩
  obtain⟨r,h1,b,rfl,hb⟩:=pc key
  exact⟨b,h1,hb⟩
end Go.AM.B1
namespace Go.AM.B1
open Go.AM Go.AM.So
def KI (f:Nat→Bool):List PV:=(List.range 32).map fun i=> .bool (f i)
def uc (d:Int) (f:Nat→Bool):List PV:=i64 d::KI f
def Ze (a:Al):PV:= .agg (uc a.1 a.2.toNat.testBit)
theorem QC (f:Nat→Bool):(KI f).length=32:=by simp[KI]
theorem Kg (d:Int) (f:Nat→Bool):(uc d f).length=33:=by rw[uc,List.length_cons,QC]
theorem LM (f:Nat→Bool) {i:Nat} (h:i < (KI f).length):(KI f)[i]= .bool (f i):=by
 simp only[KI,List.getElem_map,List.getElem_range]
theorem pH (f:Nat→Bool) {i:Nat} (h:i < 32):(KI f)[i]? =some (.bool (f i)):=by
 rw[List.getElem?_eq_getElem (by rw[QC];exact h),LM]
theorem RN (f:Nat→Bool) {i:Nat} (h:i < 32) (b:Bool):(KI f).set i (.bool b)=KI fun j=>if j=i then b else f j:=by
 apply List.ext_getElem
 ·rw[List.length_set,QC,QC]
 ·intro j h1 h2
  rw[List.getElem_set,LM,LM]
  by_cases hj:i=j
  ·subst hj;rw[if_pos rfl,if_pos rfl]
  ·rw[if_neg hj,if_neg (Ne.symm hj)]
theorem Jt {f g:Nat→Bool} (h:∀ x,x < 32→f x=g x):KI f=KI g:=by
 unfold KI
 apply List.map_congr_left
 intro x hx
 rw[h x (by simpa using hx)]
theorem XN {f g:Nat→Bool} (h:KI f=KI g) {i:Nat} (hi:i < 32):f i=g i:=by
 have h1:=pH f hi
 rw[h,pH g hi] at h1
 injection h1 with h1;injection h1 with h1;exact h1.symm
theorem dw (d:Int) (f:Nat→Bool):∀ e∈uc d f,(AV.pv e).one=true:=by
 intro e he
 rcases List.mem_cons.1 he with rfl | he
 ·rfl
 ·obtain⟨x,_,rfl⟩:=List.mem_map.1 he
  rfl
def tU (a:Al):Prop:=∃ b:Nat,a.2=(b:Int)∧b < 4294967296
theorem KR {a b:Al} (ha:tU a) (hb:tU b) (h:Ze a=Ze b):a=b:=by
 obtain⟨d,_⟩:=a;obtain⟨e,_⟩:=b
 obtain⟨m,rfl,hm⟩:=ha
 obtain⟨n,rfl,hn⟩:=hb
 simp only[Ze,uc,PV.agg.injEq,List.cons.injEq,PV.int.injEq,true_and,Int.toNat_natCast] at h
 have:m=n:=by
  apply Nat.eq_of_testBit_eq
  intro i
  by_cases hi:i < 32
  ·exact XN h.2 hi
  ·rw[Nat.testBit_lt_two_pow (Nat.lt_of_lt_of_le hm (Nat.pow_le_pow_right (n:=2) (by decide) (by omega:32≤i))),Nat.testBit_lt_two_pow (Nat.lt_of_lt_of_le hn (Nat.pow_le_pow_right (n:=2) (by decide) (by omega:32≤i)))]
 subst this
 have h1:d=e:=by have:=h.1;omega
 rw[h1]
theorem Sx:∀ (l:List Nat) (f g:Nat→Bool),si (l.map fun _=>0) (l.map fun i=> .bool (f i)) (l.map fun i=> .bool (g i))=some (l.all fun i=>f i==g i)
 | [],f,g=>rfl
 |i::l,f,g=>by
  simp only[List.map_cons,si,Mq,Option.bind_some,Sx l f g,Option.map_some,List.all_cons]
abbrev UY:Kd:= .row [1,0,0,0,0,0,0,0,0,0,0,0,0,0,0,0,0,0,0,0,0,0,0,0,0,0,0,0,0,0,0,0,0]
theorem oU (a b:Al):∃ c,zk UY (Ze a) (Ze b)=some c∧(c=true↔Ze a=Ze b):=by
 have h:=Sx (List.range 32) a.2.toNat.testBit b.2.toNat.testBit
 have h0:(List.range 32).map (fun _=>0)=[0,0,0,0,0,0,0,0,0,0,0,0,0,0,0,0,0,0,0,0,0,0,0,0,0,0,0,0,0,0,0,0]:=by decide
 rw[h0] at h
 refine⟨((a.1:Int)==b.1)&&(List.range 32).all fun i=>a.2.toNat.testBit i==b.2.toNat.testBit i,?_,?_⟩
 ·show si (1::[0,0,0,0,0,0,0,0,0,0,0,0,0,0,0,0,0,0,0,0,0,0,0,0,0,0,0,0,0,0,0,0]) (i64 a.1::KI _) (i64 b.1::KI _)=_
  unfold si
  rw[show KI a.2.toNat.testBit=(List.range 32).map fun i=> .bool (a.2.toNat.testBit i) from rfl,show KI b.2.toNat.testBit=(List.range 32).map fun i=> .bool (b.2.toNat.testBit i) from rfl,h]
  simp only[Mq,if_true,Option.bind_some,Option.map_some]
 ·simp only[Bool.and_eq_true,beq_iff_eq,List.all_eq_true,List.mem_range]
  constructor
  ·rintro⟨h1,h2⟩
   rw[Ze,Ze,h1]
   unfold uc
   rw[Jt h2]
  ·intro h
   simp only[Ze,uc,PV.agg.injEq,List.cons.injEq,PV.int.injEq,true_and] at h
   exact⟨h.1,fun i hi=>XN h.2 hi⟩
theorem LK (H:List ba) {l:List Al} {i:Nat} (hi:i < l.length):wa H 33 (.pv (.lit 33 (l.map Ze))) (i:Int)=some (.pv (.rp (uc l[i].1 l[i].2.toNat.testBit) 0)):=by
 simp only[wa]
 rw[if_pos (by refine⟨trivial,?_⟩;unfold Ga;simp;omega)]
 simp[hi,Ze,PV.cells]
theorem GJ (H:List ba) (d:Int) (f:Nat→Bool):ta H true 33 (.pv (.rp (uc d f) 0))=some (.pv (.agg (uc d f))):=by
 have h:=Kg d f
 simp only[ta,im,if_true]
 rw[if_pos (by omega),List.drop_zero,List.take_of_length_le (by omega)]
 rfl
theorem FO {a:Al} {l:List Al} {i k:Nat} (hi:i < l.length):Nl a (l.drop i) k=if a=l[i] then some k else Nl a (l.drop (i+1)) (k+1):=by
 rw[List.drop_eq_getElem_cons hi,Nl]
abbrev gL (v:PV) (row:List PV) (i:Int):Tr:=((Tr.lf.set 5 (.pv (i64 i))).set 3 (.pv (.rp row 0))).set 0 (.pv v)
theorem QT {l:List Al} {a:Al} (hl:l.length≤64) (ha:tU a) (hb:∀ b∈l,tU b):qi [.lit 33 (l.map Ze),Ze a]=some (i64 (match Nl a l 0 with | some k=>(k:Int) | none=> -1)):=by
 have hloop:Pd (fun r=>∃ E,(r=(.exit 0,⟨E,[]⟩)∧Nl a l 0=none)∨(∃ k,r=(.ret,⟨E,[]⟩)∧Nl a l 0=some k∧E.get 4= .pv (i64 (k:Nat))))
  (pb (ma (qa (Ca (fun _=>none) 8) oe) (na 0 [0,3,5])) pa ⟨gL (.lit 33 (l.map Ze)) (uc a.1 a.2.toNat.testBit) 0,[]⟩):=by
  refine ya (Mb (g:=ma (qa (Ca (fun _=>none) 8) oe) (na 0 [0,3,5]))
   (fun i t=>t=⟨gL (.lit 33 (l.map Ze)) (uc a.1 a.2.toNat.testBit) i,[]⟩∧Nl a l 0=Nl a (l.drop i) i)
   l.length (by unfold pa;omega) _ ⟨rfl,rfl⟩ ?_ ?_) (fun r h=>h.2)
  ·rintro i t hi ⟨rfl,hs⟩
   rw[FO hi] at hs
   have a1:=LK [] hi
   have a2:=GJ [] l[i].1 l[i].2.toNat.testBit
   have a3:=GJ [] a.1 a.2.toNat.testBit
   obtain⟨c,heq,hce⟩:=oU l[i] a
   have heq:zk UY (.agg (uc l[i].1 l[i].2.toNat.testBit)) (.agg (uc a.1 a.2.toNat.testBit))=some c:=heq
   have e1:decide ((i:Int) < (l.length:Int))=true:=Fa (by omega)
   have t2:=eb hi (show l.length≤maxLen by unfold maxLen;omega)
   have ln:Tb [] 0 (.pv (.lit 33 (l.map Ze)))=some l.length:=by simp[Tb]
   have hbi:=hb _ (List.getElem_mem hi)
   generalize uc a.1 a.2.toNat.testBit=row at *
   generalize uc l[i].1 l[i].2.toNat.testBit=row2 at *
   generalize l.map Ze=es at *
   generalize hQ:LN _ _ i=Q
   by_cases h:a=l[i]
   ·rw[hce.2 (by rw[h])] at heq
    rw[if_pos h] at hs
    simp -implicitDefEqProofs only[SX,sevalprocAttr,oe,e1,ln,a1,a2,a3,heq,gL]
    subst hQ
    exact⟨_,.inr ⟨i,rfl,hs,by simp[Tr.aa]⟩⟩
   ·have:c=false:=by cases c with | false=>rfl | true=>exact absurd (KR hbi ha (hce.1 rfl)).symm h
    rw[this] at heq
    rw[if_neg h] at hs
    simp -implicitDefEqProofs only[SX,sevalprocAttr,oe,e1,t2,ln,a1,a2,a3,heq,na,za,AV.cut,ua,gL]
    subst hQ
    exact⟨rfl,hs⟩
  ·rintro t ⟨rfl,hs⟩
   rw[List.drop_length,Nl] at hs
   have e1:decide ((l.length:Int) < (l.length:Int))=false:=Ha (by omega)
   have ln:Tb [] 0 (.pv (.lit 33 (l.map Ze)))=some l.length:=by simp[Tb]
   generalize l.map Ze=es at *
   generalize hQ:(fun r:Ex×St=>r.1.stop=true∧_)=Q
   simp -implicitDefEqProofs only[SX,sevalprocAttr,oe,e1,ln,gL]
   subst hQ
   exact⟨rfl,_,.inl ⟨rfl,hs⟩⟩
 have hln:=Kg (a.1:Int) a.2.toNat.testBit
 have hall:∀ e∈uc (a.1:Int) a.2.toNat.testBit,(AV.pv e).one=true:=dw _ _
 have he:Ze a= .agg (uc a.1 a.2.toNat.testBit):=rfl
 rw[he]
 generalize uc (a.1:Int) a.2.toNat.testBit=row at *
 have hbx:((row.map AV.pv).length=33∧(row.map AV.pv).all AV.one=true)=True:=by
  refine eq_true ⟨by rw[List.length_map,hln],?_⟩
  rw[List.all_eq_true];intro v hv
  obtain⟨e,he,rfl⟩:=List.mem_map.1 hv
  exact hall e he
 have hmp:Pa (Rb [] 0) (row.map AV.pv)=some row:=HC _ _ _
 generalize l.map Ze=es at *
 apply Km
 simp -implicitDefEqProofs only[qi,SX,sevalprocAttr,pk,hbx,hmp,Fb,na,za,AV.cut,ua]
 refine ya hloop ?_
 rintro _ ⟨E,⟨rfl,hn⟩ | ⟨k,rfl,hk,g⟩⟩
 ·simp -implicitDefEqProofs only[SX,sevalprocAttr,hn]
 ·simp -implicitDefEqProofs only[SX,sevalprocAttr,g,hk]
end Go.AM.B1
namespace Go.AM.B1
open Go.AM Go.AM.So
theorem qh {α:Type}:∀ (vs cs:List α) (off j:Nat),off+vs.length≤cs.length→(ga cs off vs)[j]? =if off≤j∧j < off+vs.length then vs[j - off]? else cs[j]?
 | [],cs,off,j,h=>by
   rw[if_neg (by simp only[List.length_nil];omega)];rfl
 |v::vs,cs,off,j,h=>by
  simp only[List.length_cons] at h
  rw[ga,qh vs _ (off+1) j (by simp;omega)]
  by_cases h1:off+1≤j∧j < off+1+vs.length
  ·rw[if_pos h1,if_pos (by simp only[List.length_cons];omega),show j - off=(j - (off+1))+1 by omega,List.getElem?_cons_succ]
  ·rw[if_neg h1]
   by_cases h2:off=j
   ·subst h2
    rw[List.getElem?_set_self (by omega),if_pos (by simp only[List.length_cons];omega),Nat.sub_self,List.getElem?_cons_zero]
   ·rw[List.getElem?_set_ne h2,if_neg (by simp only[List.length_cons];omega)]
def Rf (n:Nat) (f:Nat→Bool):List PV:=(List.range n).map fun x=> .bool (f x)
theorem Ig (n:Nat) (f:Nat→Bool):(Rf n f).length=n:=by rw[Rf,List.length_map,List.length_range]
theorem RC (n:Nat) (f:Nat→Bool) {i:Nat} (h:i < (Rf n f).length):(Rf n f)[i]= .bool (f i):=by
 simp only[Rf,List.getElem_map,List.getElem_range]
theorem vz {n:Nat} (f:Nat→Bool) {i:Nat} (h:i < n):(Rf n f)[i]? =some (.bool (f i)):=by
 rw[List.getElem?_eq_getElem (by rw[Ig];exact h),RC]
theorem tabN_get? (n:Nat) (f:Nat→Bool) (i:Nat):(Rf n f)[i]? =if i < n then some (.bool (f i)) else none:=by
 by_cases h:i < n
 ·rw[if_pos h,vz f h]
 ·rw[if_neg h,List.getElem?_eq_none (by rw[Ig];omega)]
theorem iF {n:Nat} {f g:Nat→Bool} (h:∀ x,x < n→f x=g x):Rf n f=Rf n g:=by
 unfold Rf
 apply List.map_congr_left
 intro x hx
 rw[h x (by simpa using hx)]
theorem aJ (n:Nat) (f:Nat→Bool):∀ e∈Rf n f,(AV.pv e).one=true:=by
 intro e he
 obtain⟨x,_,rfl⟩:=List.mem_map.1 he
 rfl
theorem qF (n:Nat):List.replicate n (PV.bool false)=Rf n fun _=>false:=by
 apply List.ext_getElem
 ·rw[List.length_replicate,Ig]
 ·intro j h1 h2;rw[List.getElem_replicate,RC]
theorem dU (f:Nat→Bool):Xe f=Rf 256 f:=rfl
theorem KT {n:Nat} (f g:Nat→Bool) {m off:Nat} (h:off+m≤n):ga (Rf n f) off (Rf m g)=Rf n fun j=>if off≤j∧j < off+m then g (j - off) else f j:=by
 apply List.ext_getElem?
 intro j
 rw[qh _ _ _ _ (by rw[Ig,Ig];exact h),Ig,tabN_get?,tabN_get?,tabN_get?]
 by_cases h1:off≤j∧j < off+m
 ·rw[if_pos h1,if_pos (show j - off < m by omega),if_pos (by omega)]
  simp only[if_pos h1]
 ·rw[if_neg h1]
  simp only[if_neg h1]
theorem iE {α β:Type} (f:α→β):∀ (vs cs:List α) (off:Nat),ga (cs.map f) off (vs.map f)=(ga cs off vs).map f
 | [],cs,off=>rfl
 |v::vs,cs,off=>by
  rw[List.map_cons,ga,ga,←iE f vs,List.map_set]
theorem JU {A:List ba} {id n off m:Nat} {f g:Nat→Bool} (hg:A[id]? =some (Ab (Rf n f))) (h:off+m≤n):
 Ea A m (.ptr id off) (.pv (.agg (Rf m g)))=some (A.set id (Ab (Rf n fun j=>if off≤j∧j < off+m then g (j - off) else f j))):=by
 have hc':(AV.pv (.agg (Rf m g))).cells=(Rf m g).map .pv:=rfl
 simp only[Ea,hg,hc']
 rw[if_pos ⟨by rw[List.length_map,Ig],by rw[List.all_eq_true];intro v hv;obtain⟨e,he,rfl⟩:=List.mem_map.1 hv;exact aJ _ _ e he⟩,
  if_pos (by rw[List.length_map,Ig];exact h),iE,KT f g h]
def Tp (s:qc) (k x:Nat):Bool:=match s.parts[k]? with
 |some l=>Fh l x
 |none=>false
def bn (s:qc) (k j:Nat):Bool:=decide (j / 256 < k)&&Tp s (j / 256) (j % 256)
def qy (s:qc):List PV:=Rf 2048 (bn s 8)
theorem UO (s:qc) {k:Nat} (hk:k < s.parts.length):(fun j=>if k * 256≤j∧j < k * 256+256 then Fh s.parts[k] (j - k * 256) else bn s k j)=bn s (k+1):=by
 funext j
 by_cases h:k * 256≤j∧j < k * 256+256
 ·have h1:j / 256=k:=by omega
  have h2:j % 256=j - k * 256:=by omega
  rw[if_pos h,bn,h1,h2,Tp,List.getElem?_eq_getElem hk]
  simp
 ·rw[if_neg h,bn,bn]
  congr 1
  rw[decide_eq_decide];omega
theorem SS (s:qc) (h8:s.parts.length≤8):Rf 2048 (bn s s.parts.length)=qy s:=by
 refine iF fun j hj=> ?_
 unfold bn
 have h2:decide (j / 256 < 8)=true:=decide_eq_true (by omega)
 rw[h2,Bool.true_and]
 by_cases h:j / 256 < s.parts.length
 ·rw[decide_eq_true h,Bool.true_and]
 ·rw[decide_eq_false h,Bool.false_and,Tp,List.getElem?_eq_none (by omega)]
abbrev Gc (i:Nat):List PV:=uc 0 fun j=>decide (j < i)
abbrev sx (S:PV) (nl:Bool) (es:List PV) (i k:Int):Tr:=(((((Tr.lf.set 9 (.pv (i64 k))).set 8 (.ptr 2 0)).set 7 (.pv (i64 i))).set 6 (.ptr 1 0)).set 5 (.uq 0 nl 2048 es)).set 1 (.pv (.rp [S] 0))
abbrev Yw (S:PV) (nl:Bool) (es:List PV) (i:Int):Tr:=(((Tr.lf.set 7 (.pv (i64 i))).set 6 (.ptr 1 0)).set 5 (.uq 0 nl 2048 es)).set 1 (.pv (.rp [S] 0))
theorem dR (call:Ta) {S:PV} {ss:List qc} {es:List PV} (hS:Za S ss es) {i:Nat} (hi:i < ss.length) (h8:ss[i].parts.length≤8) (nl:Bool) (os:List PV) (m:Nat) (F:List PV):
 Pd (fun r=>∃ E,r=(.exit 2,⟨E,[.tok 2048 m nl,Ab F,Ab (qy ss[i])]⟩)∧E.get 1= .pv (.rp [S] 0)∧E.get 5= .uq 0 nl 2048 os∧E.get 6= .ptr 1 0∧E.get 7= .pv (i64 i)∧E.get 8= .ptr 2 0)
  (pb (ma (qa call Hf) (na 3 [1,5,6,7,8,9])) pa ⟨sx S nl os i 0,[.tok 2048 m nl,Ab F,Ab (Rf 2048 fun _=>false)]⟩):=by
 obtain⟨P,ps,hP,a0⟩:=hS.Sd hi
 rw[← SS _ h8]
 have ln:=hP.parts.Tb
 have hz:(Rf 2048 fun _=>false)=Rf 2048 (bn ss[i] 0):=iF fun j _=>by rw[bn];simp
 rw[hz]
 generalize ss[i]=s at *
 refine ya (Mb (g:=ma (qa call Hf) (na 3 [1,5,6,7,8,9]))
  (fun k t=>t=⟨sx S nl os i k,[.tok 2048 m nl,Ab F,Ab (Rf 2048 (bn s k))]⟩)
  s.parts.length (by unfold pa;omega) _ rfl ?_ ?_) (fun r h=>h.2)
 ·rintro k t hk rfl
  obtain⟨v,hv,hpt,_⟩:=hP.parts.Sd hk []
  have a1:=hP.parts.bw hv
  have hm:=ur hpt.is hpt.sz
  have hnx:=UO s hk
  have e1:decide ((k:Int) < (s.parts.length:Int))=true:=Fa (by omega)
  have t2:IntKind.i64.wrap ((k:Int)+1)=((k+1:Nat):Int):=Aa (by omega)
  have hq:Ga (k:Int) 8:=by unfold Ga;omega
  have t1:((k:Int)).toNat=k:=by simp
  have pl:=Di (A:=[.tok 2048 m nl,Ab F,Ab (Rf 2048 (bn s k))]) (id:=2) (es:=Rf 2048 (bn s k)) rfl 0 (k * 256)
  rw[Nat.zero_add] at pl
  have st:=JU (A:=[.tok 2048 m nl,Ab F,Ab (Rf 2048 (bn s k))]) (id:=2) (n:=2048) (off:=k * 256) (m:=256) (f:=bn s k) (g:=Fh s.parts[k]) rfl (by omega)
  rw[hnx,←dU] at st
  have st2:([.tok 2048 m nl,Ab F,Ab (Rf 2048 (bn s k))]:List ba).set 2 (Ab (Rf 2048 (bn s (k+1))))=[.tok 2048 m nl,Ab F,Ab (Rf 2048 (bn s (k+1)))]:=rfl
  rw[st2] at st
  have c1:=Sg F 3
  have c2:=Sg (Rf 2048 (bn s (k+1))) 3
  have c0:oa 3 (.tok 2048 m nl)=some (.tok 2048 m nl):=rfl
  have hLN:∀ st:St,st=⟨sx S nl os i (k+1:Nat),[.tok 2048 m nl,Ab F,Ab (Rf 2048 (bn s (k+1)))]⟩→LN (fun k t=>t=⟨sx S nl os i k,[.tok 2048 m nl,Ab F,Ab (Rf 2048 (bn s k))]⟩)
   (fun r=>∃ E,r=(.exit 2,⟨E,[.tok 2048 m nl,Ab F,Ab (Rf 2048 (bn s s.parts.length))]⟩)∧E.get 1= .pv (.rp [S] 0)∧E.get 5= .uq 0 nl 2048 os∧E.get 6= .ptr 1 0∧E.get 7= .pv (i64 i)∧E.get 8= .ptr 2 0) k (.norm,st):=fun st h=>h
  generalize LN _ _ k=QQ at hLN ⊢
  generalize Ab F=oF at *
  generalize Ab (Rf 2048 (bn s k))=oT at *
  generalize Ab (Rf 2048 (bn s (k+1)))=oT' at *
  generalize Xe (Fh s.parts[k])=T at *
  have hcl:Pa (oa 3) [.tok 2048 m nl,oF,oT']=some [.tok 2048 m nl,oF,oT']:=by simp only[Pa,c0,c1,c2,Option.bind_some,Option.map_some]
  have htk:∀ a b c:ba,([a,b,c]:List ba).take 3=[a,b,c]:=fun a b c=>rfl
  have d0:(0 < 3)=True:=by simp
  have d1:(1 < 3)=True:=by simp
  have d2:(2 < 3)=True:=by simp
  simp -implicitDefEqProofs only[SX,sevalprocAttr,-List.reduceReplicate,Hf,Kb,Sa,Pb,wc,a0,a1,ln,e1,hm,eq_true hq,t1,t2,pl,st,hcl,htk,d0,d1,d2,na,za,AV.cut,ua,sx]
  exact hLN _ rfl
 ·rintro t rfl
  have e1:decide ((s.parts.length:Int) < (s.parts.length:Int))=false:=Ha (by omega)
  generalize Ab (Rf 2048 (bn s s.parts.length))=oT
  generalize Ab F=oF
  generalize hQ:(fun r:Ex×St=>r.1.stop=true∧_)=Q
  simp -implicitDefEqProofs only[SX,sevalprocAttr,-List.reduceReplicate,Hf,Kb,Sa,Pb,wc,a0,ln,e1,sx]
  subst hQ
  exact⟨rfl,_,rfl,by simp[Tr.aa],by simp[Tr.aa],by simp[Tr.aa],by simp[Tr.aa],by simp[Tr.aa]⟩
end Go.AM.B1
namespace Go.AM.B1
open Go.AM Go.AM.So
theorem bN {i:Nat} (hi:i < 32):(Gc i).set (1+i) (.bool true)=Gc (i+1):=by
 rw[Nat.add_comm 1 i]
 unfold Gc uc
 rw[List.set_cons_succ,RN _ hi]
 congr 1
 refine Jt fun x hx=> ?_
 by_cases h:x=i
 ·subst h;simp
 ·rw[if_neg h,decide_eq_decide];omega
def sf (ss:List qc):List PV:=ss.map fun s=> .agg (qy s)
theorem TP (call:Ta) {S:PV} {ss:List qc} {es:List PV} (hS:Za S ss es) (hw:ss.length≤32) (h8:∀ s∈ss,s.parts.length≤8):
 Pd (fun r=>∃ E nl,r=(.exit 0,⟨E,[.tok 2048 ss.length nl,Ab (Gc ss.length)]⟩)∧E.get 1= .pv (.rp [S] 0)∧E.get 5= .uq 0 nl 2048 (sf ss)∧E.get 6= .ptr 1 0)
  (pb (ma (qa call Mf) (na 2 [1,5,6,7])) pa ⟨Yw S true [] 0,[.tok 2048 0 true,Ab (Gc 0)]⟩):=by
 have ln:=hS.Tb
 refine ya (Mb (g:=ma (qa call Mf) (na 2 [1,5,6,7]))
  (fun i t=>∃ nl,t=⟨Yw S nl (sf (ss.take i)) i,[.tok 2048 i nl,Ab (Gc i)]⟩)
  ss.length (by unfold pa;omega) _ ⟨true,rfl⟩ ?_ ?_) (fun r h=>h.2)
 ·rintro i t hi ⟨nl,rfl⟩
  have hin:=dR call hS hi (h8 _ (List.getElem_mem hi)) nl (sf (ss.take i)) i (Gc (i+1))
  have hnext:sf (ss.take (i+1))=sf (ss.take i)++[.agg (qy ss[i])]:=by
   have:ss.take (i+1)=ss.take i++[ss[i]]:=by simp
   rw[this,sf,List.map_append];rfl
  have hel:(sf (ss.take i)).length=i:=by rw[sf,List.length_map,List.length_take];omega
  have e1:decide ((i:Int) < (ss.length:Int))=true:=Fa (by omega)
  have t2:=eb hi (show ss.length≤maxLen by unfold maxLen;omega)
  have hq:Ga (i:Int) 32:=by unfold Ga;omega
  have t1:((i:Int)).toNat=i:=by simp
  have m1:i * 1=i:=by omega
  have p1:=Di (A:=[.tok 2048 i nl,Ab (Gc i)]) (id:=1) (es:=Gc i) rfl 0 1
  have p2:=Di (A:=[.tok 2048 i nl,Ab (Gc i)]) (id:=1) (es:=Gc i) rfl 1 i
  rw[Nat.zero_add] at p1
  have st:=Ww (A:=[.tok 2048 i nl,Ab (Gc i)]) (id:=1) (es:=Gc i) rfl (k:=1+i) (by rw[Gc,Kg];omega) (e:= .bool true) rfl rfl
  rw[bN (by omega)] at st
  have st2:([.tok 2048 i nl,Ab (Gc i)]:List ba).set 1 (Ab (Gc (i+1)))=[.tok 2048 i nl,Ab (Gc (i+1))]:=rfl
  rw[st2] at st
  have hz1:ba.box (List.map AV.pv (List.replicate 2048 (PV.bool false)))=Ab (Rf 2048 fun _=>false):=by rw[qF]
  have hcz:(List.replicate 2048 (PV.bool false)).length=2048:=List.length_replicate
  have hld:ta [.tok 2048 i nl,Ab (Gc (i+1)),Ab (qy ss[i])] true 2048 (.ptr 2 0)=some (.pv (.agg (qy ss[i]))):=Rl (id:=2) rfl (Ig _ _)
  have hap:=Lg (A:=[.tok 2048 i nl,Ab (Gc (i+1)),Ab (qy ss[i])]) (id:=0) (n:=i) (sz:=2048) (h:= .uq) (nl:=nl) (ag:=true) (bytes:=2048) (es:=sf (ss.take i)) rfl hel.symm (by unfold ab;omega) (.agg (qy ss[i]))
  rw[← hnext,List.set_cons_zero] at hap
  have c1:=Sg (Gc i) 3
  have c1':=Sg (Gc (i+1)) 3
  have c2:=Sg (Gc (i+1)) 2
  have c3:=Sg (Rf 2048 fun _=>false) 3
  have c0:∀ k n nl,oa k (.tok 2048 n nl)=some (.tok 2048 n nl):=fun k n nl=>rfl
  have hon:=aJ 2048 (bn ss[i] 8)
  have hol:=Ig 2048 (bn ss[i] 8)
  have hLN:∀ st:St,st=⟨Yw S false (sf (ss.take (i+1))) (i+1:Nat),[.tok 2048 (i+1) false,Ab (Gc (i+1))]⟩→LN (fun i t=>∃ nl,t=⟨Yw S nl (sf (ss.take i)) i,[.tok 2048 i nl,Ab (Gc i)]⟩)
   (fun r=>∃ E nl,r=(.exit 0,⟨E,[.tok 2048 ss.length nl,Ab (Gc ss.length)]⟩)∧E.get 1= .pv (.rp [S] 0)∧E.get 5= .uq 0 nl 2048 (sf ss)∧E.get 6= .ptr 1 0) i (.norm,st):=fun st h=>⟨false,h⟩
  generalize LN _ _ i=QQ at hLN ⊢
  have hcl3:Pa (oa 3) [.tok 2048 i nl,Ab (Gc (i+1)),Ab (Rf 2048 fun _=>false)]=some [.tok 2048 i nl,Ab (Gc (i+1)),Ab (Rf 2048 fun _=>false)]:=by simp only[Pa,c0,c1',c3,Option.bind_some,Option.map_some]
  have hcl2:Pa (oa 2) [.tok 2048 (i+1) false,Ab (Gc (i+1))]=some [.tok 2048 (i+1) false,Ab (Gc (i+1))]:=by simp only[Pa,c0,c2,Option.bind_some,Option.map_some]
  change ∀ e∈qy ss[i],_ at hon
  change (qy ss[i]).length=2048 at hol
  generalize qy ss[i]=T at *
  generalize sf (ss.take i)=os at *
  generalize sf (ss.take (i+1))=os' at *
  generalize hzs:List.replicate 2048 (PV.bool false)=zs at *
  have hall:((T.map AV.pv).all AV.one)=true:=by
   rw[List.all_eq_true];intro v hv
   obtain⟨e,he,rfl⟩:=List.mem_map.1 hv
   exact hon e he
  have hsr:ga (zs.map AV.pv++[]) 0 (T.map AV.pv)=T.map AV.pv:=by
   have:=Zu (T.map AV.pv) (zs.map AV.pv) [] (by simp;omega)
   rw[List.append_nil]
   simpa using this
  have hTl:(T.map AV.pv).length=2048:=by rw[List.length_map,hol]
  have hap2:=Ef T
  have htT:T.take 2048=T:=List.take_of_length_le (by omega)
  have hle:(2048≤(zs.map AV.pv++[]).length)=True:=eq_true (by rw[List.append_nil,List.length_map,hcz];exact Nat.le_refl _)
  generalize hoz:Ab (Rf 2048 fun _=>false)=oz at *
  generalize Ab (Gc i)=o1 at *
  generalize Ab (Gc (i+1))=o1' at *
  generalize hoT:Ab T=oT at *
  have htk:∀ a b c:ba,([a,b,c]:List ba).take 3=[a,b,c]:=fun a b c=>rfl
  have htk2:∀ a b c:ba,([a,b,c]:List ba).take 2=[a,b]:=fun a b c=>rfl
  have d0:(0 < 3)=True:=by simp
  have d1:(1 < 3)=True:=by simp
  have d2:(2 < 3)=True:=by simp
  have d02:(0 < 2)=True:=by simp
  have d12:(1 < 2)=True:=by simp
  simp -implicitDefEqProofs only[SP,WP,ga,sevalprocAttr,-List.reduceReplicate,Mf,Fb,Kb,Sa,ln,e1,eq_true hq,t1,m1,p1,p2,st,hzs,hz1,hcl3,htk,d0,d1,d2,na,za,AV.cut,ua,Yw]
  refine ya hin ?_
  rintro r ⟨E,rfl,g1,g5,g6,g7,g8⟩
  simp -implicitDefEqProofs only[SP,WP,ga,sevalprocAttr,-List.reduceReplicate,g1,g5,g6,g7,g8,hld,hzs,hTl,hall,hsr,hap,hap2,htT,hle,t2,hcl2,htk2,d02,d12,na,za,AV.cut,ua]
  exact hLN _ rfl
 ·rintro t ⟨nl,rfl⟩
  rw[List.take_length]
  have e1:decide ((ss.length:Int) < (ss.length:Int))=false:=Ha (by omega)
  generalize Ab (Gc ss.length)=oF
  generalize sf ss=os
  generalize hQ:(fun r:Ex×St=>r.1.stop=true∧_)=Q
  simp -implicitDefEqProofs only[SX,sevalprocAttr,-List.reduceReplicate,Mf,Kb,Sa,ln,e1,Yw]
  subst hQ
  exact⟨rfl,_,nl,rfl,by simp[Tr.aa],by simp[Tr.aa],by simp[Tr.aa]⟩
end Go.AM.B1
