/- What functions of the program compute. -/
import Derived.Test.YtijlhblleiaomaaGreatW12
import Derived.Test.YtijlhblleiaomaaGreatW3
import Derived.Test.YtijlhblleiaomaaGreatW4
import Derived.Test.YtijlhblleiaomaaGreatW11
set_option linter.unusedVariables false
set_option linter.unusedSimpArgs false
namespace Go.AM.B1
open Go.AM Go.AM.So
theorem iC (l:List Int) (n:Nat):(xf l).all (AV.ze n deep)=true:=by
 rw[List.all_eq_true];intro x hx
 obtain⟨y,_,rfl⟩:=List.mem_map.1 hx
 rfl
theorem XR {V S':PV} {y:Bool} {a b:Int} (nl:Bool) (ds:List PV) (D:List (List Int)) (fl:Nat) (nr:Bool) (m:Int):
 xg (Kw (.box [.pv V]) (.box [.pv (.bool y),.pv (i64 a),.pv (i64 b)]) (.tok 256 0 true) (.pv S') (.pv V) (.uq 3 true 256 []) nl ds D fl nr m):=by
 intro n hn o ho
 have hn:6≤n:=hn
 simp only[Kw,List.mem_cons,List.not_mem_nil,or_false] at ho
 rcases ho with rfl | rfl | rfl | rfl | rfl | rfl
 ·exact Mp n [V]
 ·exact Mp n [.bool y,i64 a,i64 b]
 ·simp only[oa,Sa,Ja,gD (show 3 < n by omega),gD (show 4 < n by omega),zN (show 5 < n by omega),Option.bind_some,Option.map_some]
 ·rfl
 ·rfl
 ·simp only[oa,iC,if_true]
theorem JR {V S':PV} {y:Bool} {a b m:Int} {nl:Bool} {ds:List PV} {D:List (List Int)} {fl k:Nat} {nr:Bool} (nx:Bool) (es:List PV):
 xg (Xu (.box [.pv V]) (.box [.pv (.bool y),.pv (i64 a),.pv (i64 b)]) (.tok 1 k nl) (.seq 3 true (xf D.flatten) fl nr) (.pv S') (.pv V) (.uq 4 nl 1 ds) (.own 5 k) (.pv (i64 m)) nx es):=by
 intro n hn o ho
 have hn:6≤n:=hn
 simp only[Xu,List.mem_cons,List.not_mem_nil,or_false] at ho
 rcases ho with rfl | rfl | rfl | rfl | rfl | rfl
 ·exact Mp n [V]
 ·exact Mp n [.bool y,i64 a,i64 b]
 ·simp only[oa,Sa,Ja,gD (show 3 < n by omega),gD (show 4 < n by omega),zN (show 5 < n by omega),Option.bind_some,Option.map_some]
 ·rfl
 ·rfl
 ·simp only[oa,iC,if_true]
theorem wR {V S':PV} {o0 o1:ba} {m:Int} {nl nr nx:Bool} {ds es:List PV} {D:List (List Int)} {fl k:Nat} (hk:D.length=k) (hD:∀ r∈D,r.length=3) (h1:nl=true→ds=[]) (h2:nr=true→D=[]) (h3:nx=true→es=[]):
 ∃ NX DG RW,Xb (Xu o0 o1 (.tok 1 k nl) (.seq 3 true (xf D.flatten) fl nr) (.pv S') (.pv V) (.uq 4 nl 1 ds) (.own 5 k) (.pv (i64 m)) nx es) 5 (.ptr 2 0)=some (.rp [S',V,NX,DG,RW,i64 m] 0)∧
  ri 256 NX es∧ri 1 DG ds∧ri 3 RW (D.map xH):=by
 refine⟨if nx then .ma else .lit 256 es,if nl then .ma else .lit 1 ds,if nr then .ma else .lit 3 (D.map xH),?_,?_,?_,?_⟩
 ·have hc:k * 3=(xf D.flatten).length∧(true||(3:Nat)==1)=true:=⟨by rw[List.length_map,ew hD,hk],rfl⟩
  have hm:Sa (Xb (Xu o0 o1 (.tok 1 k nl) (.seq 3 true (xf D.flatten) fl nr) (.pv S') (.pv V) (.uq 4 nl 1 ds) (.own 5 k) (.pv (i64 m)) nx es) 3) (xf D.flatten)=some (D.flatten.map i64):=by
   generalize Xu o0 o1 (.tok 1 k nl) (.seq 3 true (xf D.flatten) fl nr) (.pv S') (.pv V) (.uq 4 nl 1 ds) (.own 5 k) (.pv (i64 m)) nx es=H
   generalize D.flatten=F
   induction F with
   |nil=>rfl
   |cons x F ih=>
    show Sa (Xb H 3) (.pv (i64 x)::xf F)=_
    rw[Sa,ih];rfl
  have hch:chunk 3 true k (D.flatten.map i64)=D.map xH:=by
   have:=KD (sz:=3) (D:=D.map fun r=>r.map i64) (by
    intro r hr
    obtain⟨q,hq,rfl⟩:=List.mem_map.1 hr
    rw[List.length_map,hD q hq])
   rw[List.length_map,List.map_map,←List.map_flatten,hk] at this
   exact this
  have h5:(Xu o0 o1 (.tok 1 k nl) (.seq 3 true (xf D.flatten) fl nr) (.pv S') (.pv V) (.uq 4 nl 1 ds) (.own 5 k) (.pv (i64 m)) nx es)[5]? =some (.seq 3 true (xf D.flatten) fl nr):=rfl
  have hb:(Xu o0 o1 (.tok 1 k nl) (.seq 3 true (xf D.flatten) fl nr) (.pv S') (.pv V) (.uq 4 nl 1 ds) (.own 5 k) (.pv (i64 m)) nx es)[2]? =some (.box [.pv S',.pv V,.uq 3 nx 256 es,.uq 4 nl 1 ds,.own 5 k,.pv (i64 m)]):=rfl
  have ho:Xb (Xu o0 o1 (.tok 1 k nl) (.seq 3 true (xf D.flatten) fl nr) (.pv S') (.pv V) (.uq 4 nl 1 ds) (.own 5 k) (.pv (i64 m)) nx es) 4 (.own 5 k)=some (if nr then .ma else .lit 3 (D.map xH)):=by
   simp only[Xb,h5,if_pos hc,hm,Option.map_some,hch]
   cases nr <;> rfl
  generalize Xu o0 o1 (.tok 1 k nl) (.seq 3 true (xf D.flatten) fl nr) (.pv S') (.pv V) (.uq 4 nl 1 ds) (.own 5 k) (.pv (i64 m)) nx es=H at *
  show (match H[2]? with | some (.box cells)=>(Sa (Xb H 4) cells).map fun ps=>PV.rp ps 0 | _=>none)=_
  rw[hb]
  have hv:∀ p:PV,Xb H 4 (.pv p)=some p:=fun p=>rfl
  have hu:∀ id nl sz es,Xb H 4 (.uq id nl sz es)=some (if nl then .ma else .lit sz es):=fun _ _ _ _=>rfl
  simp only[Sa,hv,hu,ho,Option.bind_some,Option.map_some]
 ·cases nx with
  |false=>exact .inr rfl
  |true=>exact .inl ⟨rfl,h3 rfl⟩
 ·cases nl with
  |false=>exact .inr rfl
  |true=>exact .inl ⟨rfl,h1 rfl⟩
 ·cases nr with
  |false=>exact .inr rfl
  |true=>exact .inl ⟨rfl,by rw[h2 rfl];rfl⟩
theorem aT {ss:List Rb} (h32:ss.length≤32) {H:List ba} {fl:Nat} {nr:Bool} (hH:H[5]? =some (.seq 3 true (xf (ni ss ss.length).flatten) fl nr)):
 nh Lq (fun _=>none) 8 34 [.own 5 ss.length,.pk 36 []] H=some (.pv (.uc []),H.set 5 (.seq 3 true (xf (Si ss).flatten) (ss.length * 3) nr)):=by
 have e34:∀ (d:Nat) args H,nh Lq (fun _=>none) (d+1) 34 args H=ez 3 0 36 args H:=fun d args H=>rfl
 rw[e34 7]
 have hl:(xf (ni ss ss.length).flatten).length=ss.length * 3:=by rw[List.length_map,ew fun r hr=>gw hr,ep]
 simp only[ez,hH]
 rw[if_pos ⟨trivial,trivial,hl.symm,by omega⟩,Ct,Option.map_some,hl]
 have:=cy (D:=ni ss ss.length) fun r hr=>gw hr
 rw[ep] at this
 rw[this];rfl
theorem JC {S:PV} {ss:List Rb} {es:List PV} (hS:wb S ss es) (Ba:qc ss) (hpre:Fg ss) {l:List (List xe)} (ha:yg ss=some l) {a b:Int} (hi:Ng [.agg [S]]=some (.uc [.agg [.bool true,i64 a,i64 b],i64 0])):
 ∃ T,Fb [.agg [S]]=some (.uc [T,i64 0])∧Sn T ss l:=by
 have hS1:(AV.pv S).one=true:=by rcases hS.is with⟨h,_⟩ | h <;> rw[h] <;> rfl
 have hb:=(ei hS).2.2.2 Ba hpre l ha
 obtain⟨S',hcp,hS'⟩:=FC hS Ba
 have hS'1:(AV.pv S').one=true:=by rcases hS' with⟨h,_⟩ | h <;> rw[h] <;> rfl
 have lS:=hS.Sb
 obtain⟨k64,k256⟩:=Oz ha
 have hst:=GD k64 k256
 have hV1:(AV.pv (zj l)).one=true:=rfl
 have hVl:ri 1 (zj l) (l.map Od):= .inr rfl
 have lV:=hVl.len
 rw[List.length_map] at lV
 have heo:=kC Ba hpre ha
 obtain⟨V,hVe⟩:∃ V,V=zj l:=⟨_,rfl⟩
 rw[← hVe] at hb hst hV1 hVl lV
 have st:Ma [.box [.pv .ma]] 1 (.ptr 0 0) (.pv (.agg [V]))=some [.box [.pv V]]:=by simp[Ma,AV.cells,PV.cells,hV1,na]
 have st2:Ma [.box [.pv V],.box [.pv (.bool false),.pv (i64 0),.pv (i64 0)]] 3 (.ptr 1 0) (.pv (.agg [.bool true,i64 a,i64 b]))=some [.box [.pv V],.box [.pv (.bool true),.pv (i64 a),.pv (i64 b)]]:=rfl
 have p2:∀ a b c d,place [a,.box [b,c,d]] 0 (.ptr 1 0)=some (.ptr 1 0):=fun a b c d=>rfl
 have l2:∀ a b c d,ya [a,.box [b,c,d]] false 1 (.ptr 1 0)=some b:=fun a b c d=>rfl
 have l3:ya [.box [.pv V],.box [.pv (.bool true),.pv (i64 a),.pv (i64 b)]] true 1 (.ptr 0 0)=some (.pv (.agg [V])):=rfl
 have z0:((0:Int)==0)=true:=rfl
 have z1:((0:Int) != 0)=false:=rfl
 have m1:na [AV.pv PV.ma,.pv .ma,.pv .ma,.pv .ma,.pv .ma,.pv (.int .i64 0)] 0 [AV.pv S']=[.pv S',.pv .ma,.pv .ma,.pv .ma,.pv .ma,.pv (.int .i64 0)]:=rfl
 have m2:na [AV.pv S',.pv .ma,.pv .ma,.pv .ma,.pv .ma,.pv (.int .i64 0)] 1 [AV.pv V]=[.pv S',.pv V,.pv .ma,.pv .ma,.pv .ma,.pv (.int .i64 0)]:=rfl
 have m3:de [AV.pv S',.pv V,.pv .ma,.pv .ma,.pv .ma,.pv (.int .i64 0)]=some [S',V,.ma,.ma,.ma,.int .i64 0]:=rfl
 have hz1:(0 < 256)=True:=by simp
 have hz2:(0 < 3)=True:=by simp
 have hz3:(0 < 1)=True:=by simp
 suffices key:Ld (fun r=>∃ T,r= .uc [T,i64 0]∧Sn T ss l) (Fb [.agg [S]]) by
  obtain⟨r,h1,T,rfl,h2⟩:=Gc key
  exact⟨T,h1,h2⟩
 generalize hQ:(fun r=>∃ T,r=PV.uc [T,i64 0]∧_)=Q
 simp -implicitDefEqProofs only[Fb,PA.eq_1,SX,sevalprocAttr,mi,hS1,hV1,hS'1,Af,Va,Yb,hb,hi,st,st2,p2,l2,l3,z0,z1,hcp,m1,m2,m3,MM,Ee,hz1,hz2,hz3,lS]
 generalize hEE:(Tr.set _ 48 _:Tr)=E
 have q4:E.get 4= .ptr 0 0:=by rw[← hEE];simp[Tr.aa]
 have q8:E.get 8= .ptr 2 0:=by rw[← hEE];simp[Tr.aa]
 have q46:E.get 46= .pv S:=by rw[← hEE];simp[Tr.aa]
 have q47:E.get 47= .pv (i64 ss.length):=by rw[← hEE];simp[Tr.aa]
 have q48:E.get 48= .pv (i64 0):=by rw[← hEE];simp[Tr.aa]
 refine za (wU (call:=nh Lq (fun _=>none) 8) (XR (V:=V) (S':=S') (y:=true) (a:=a) (b:=b)) hS Ba q4 q8 q46 q47 q48) ?_
 rintro r ⟨_,E2,nl,nr,rfl,g4,g8,hnl,hnr⟩
 have hdl:(ss.map fun s=>Ii s.parts).length=ss.length:=by rw[List.length_map]
 have hrl:=ep ss ss.length
 have hDl:=UF ss
 have p5:∀ d,place (Kw (.box [.pv V]) (.box [.pv (.bool true),.pv (i64 a),.pv (i64 b)]) (.tok 256 0 true) (.pv S') (.pv V) (.uq 3 true 256 []) nl (ss.map fun s=>Ii s.parts) (ni ss ss.length) 0 nr (zi ss)) d (.ptr 2 0)=some (.ptr 2 (0+d)):=fun d=>cg rfl d 0
 have l5:ya (Kw (.box [.pv V]) (.box [.pv (.bool true),.pv (i64 a),.pv (i64 b)]) (.tok 256 0 true) (.pv S') (.pv V) (.uq 3 true 256 []) nl (ss.map fun s=>Ii s.parts) (ni ss ss.length) 0 nr (zi ss)) false 1 (.ptr 2 4)=some (.own 5 ss.length):=by
  rw[← hrl,ep]
  show some (AV.own 5 (ni ss ss.length).length)=_
  rw[hrl]
 have hsort:=aT Ba.len (H:=Kw (.box [.pv V]) (.box [.pv (.bool true),.pv (i64 a),.pv (i64 b)]) (.tok 256 0 true) (.pv S') (.pv V) (.uq 3 true 256 []) nl (ss.map fun s=>Ii s.parts) (ni ss ss.length) 0 nr (zi ss)) rfl
 have hHT:(Kw (.box [.pv V]) (.box [.pv (.bool true),.pv (i64 a),.pv (i64 b)]) (.tok 256 0 true) (.pv S') (.pv V) (.uq 3 true 256 []) nl (ss.map fun s=>Ii s.parts) (ni ss ss.length) 0 nr (zi ss)).set 5 (.seq 3 true (xf (Si ss).flatten) (ss.length * 3) nr)=Xu (.box [.pv V]) (.box [.pv (.bool true),.pv (i64 a),.pv (i64 b)]) (.tok 1 ss.length nl) (.seq 3 true (xf (Si ss).flatten) (ss.length * 3) nr) (.pv S') (.pv V) (.uq 4 nl 1 (ss.map fun s=>Ii s.parts)) (.own 5 ss.length) (.pv (i64 (zi ss))) true []:=by
  unfold Kw Xu
  rw[hdl,hrl];rfl
 rw[hHT] at hsort
 have p6:∀ d,place (Xu (.box [.pv V]) (.box [.pv (.bool true),.pv (i64 a),.pv (i64 b)]) (.tok 1 ss.length nl) (.seq 3 true (xf (Si ss).flatten) (ss.length * 3) nr) (.pv S') (.pv V) (.uq 4 nl 1 (ss.map fun s=>Ii s.parts)) (.own 5 ss.length) (.pv (i64 (zi ss))) true []) d (.ptr 0 0)=some (.ptr 0 (0+d)):=fun d=>cg rfl d 0
 have l6:ya (Xu (.box [.pv V]) (.box [.pv (.bool true),.pv (i64 a),.pv (i64 b)]) (.tok 1 ss.length nl) (.seq 3 true (xf (Si ss).flatten) (ss.length * 3) nr) (.pv S') (.pv V) (.uq 4 nl 1 (ss.map fun s=>Ii s.parts)) (.own 5 ss.length) (.pv (i64 (zi ss))) true []) false 1 (.ptr 0 0)=some (.pv V):=rfl
 have hnx:=fun (E3:Tr) (r8:E3.get 8= .ptr 2 0) (r101:E3.get 101= .pv V) (r102:E3.get 102= .pv (i64 l.length)) (r103:E3.get 103= .pv (i64 0))=>
  nU (call:=nh Lq (fun _=>none) 8) (JR (V:=V) (S':=S') (y:=true) (a:=a) (b:=b) (m:=zi ss) (nl:=nl) (ds:=ss.map fun s=>Ii s.parts) (D:=Si ss) (fl:=ss.length * 3) (k:=ss.length) (nr:=nr)) hVl k64 k256 heo r8 r101 r102 r103
 obtain⟨NX,hNX⟩:∃ x,x=fun nx=>Xu (.box [.pv V]) (.box [.pv (.bool true),.pv (i64 a),.pv (i64 b)]) (.tok 1 ss.length nl) (.seq 3 true (xf (Si ss).flatten) (ss.length * 3) nr) (.pv S') (.pv V) (.uq 4 nl 1 (ss.map fun s=>Ii s.parts)) (.own 5 ss.length) (.pv (i64 (zi ss))) nx (l.map Tm):=⟨_,rfl⟩
 have hnx':=hnx
 generalize Kw (.box [.pv V]) (.box [.pv (.bool true),.pv (i64 a),.pv (i64 b)]) (.tok 256 0 true) (.pv S') (.pv V) (.uq 3 true 256 []) nl (ss.map fun s=>Ii s.parts) (ni ss ss.length) 0 nr (zi ss)=HS at *
 simp -implicitDefEqProofs only[SX,sevalprocAttr,g4,g8,p5,l5,hsort,p6,l6,lV]
 generalize hEE3:(Tr.set _ 103 _:Tr)=E3
 refine za (hnx E3 (by rw[← hEE3];simp[Tr.aa,g8]) (by rw[← hEE3];simp[Tr.aa]) (by rw[← hEE3];simp[Tr.aa]) (by rw[← hEE3];simp[Tr.aa])) ?_
 rintro r ⟨_,E4,nx,rfl,r8,hx⟩
 obtain⟨NX,DG,RW,t1,t2,t3,t4⟩:=wR (V:=V) (S':=S') (o0:= .box [.pv V]) (o1:= .box [.pv (.bool true),.pv (i64 a),.pv (i64 b)]) (m:=zi ss) (nl:=nl) (nr:=nr) (nx:=nx) (ds:=ss.map fun s=>Ii s.parts) (es:=l.map Tm) (D:=Si ss) (fl:=ss.length * 3) (k:=ss.length) hDl (fun r hr=>sA hr) (fun h=>by rw[hnl h];rfl) (fun h=>by have:=hDl;rw[hnr h] at this ⊢;exact List.eq_nil_of_length_eq_zero this) (fun h=>by rw[hx h];rfl)
 generalize Xu (.box [.pv V]) (.box [.pv (.bool true),.pv (i64 a),.pv (i64 b)]) (.tok 1 ss.length nl) (.seq 3 true (xf (Si ss).flatten) (ss.length * 3) nr) (.pv S') (.pv V) (.uq 4 nl 1 (ss.map fun s=>Ii s.parts)) (.own 5 ss.length) (.pv (i64 (zi ss))) nx (l.map Tm)=HT at *
 have hm1:qG [AV.ptr 2 0,.pv (.int .i64 0)]= .uc [.ptr 2 0,.pv (.int .i64 0)]:=rfl
 have htp:Xb HT 6 (.uc [.ptr 2 0,.pv (.int .i64 0)])=some (.uc [.rp [S',V,NX,DG,RW,i64 (zi ss)] 0,i64 0]):=by
  show (Sa (Xb HT 5) [AV.ptr 2 0,.pv (.int .i64 0)]).map PV.uc=_
  have hv:Xb HT 5 (.pv (.int .i64 0))=some (.int .i64 0):=rfl
  simp only[Sa,t1,hv,Option.bind_some,Option.map_some]
 simp -implicitDefEqProofs only[SX,sevalprocAttr,r8,TB,hm1,htp]
 subst hQ
 exact⟨_,rfl,⟨S',NX,DG,RW,by rw[hVe],hS',t2,t3,t4⟩⟩
theorem gp {S:PV} {ss:List Rb} {es:List PV} (hS:wb S ss es):∃ T n,Fb [.agg [S]]=some (.uc [T,i64 n])∧(n≠0→T= .Kg)∧
 (¬ qc ss→n=84)∧(qc ss→¬Fg ss→n=110)∧(qc ss→Fg ss→¬ym ss→n=111)∧(qc ss→Fg ss→ym ss→yg ss=none→n=130)∧
 (∀ l,qc ss→Fg ss→ym ss→yg ss=some l→n=0∧Sn T ss l):=by
 have hb:=ei hS
 by_cases h1:qc ss
 ·by_cases h2:Fg ss
  ·obtain⟨y,a,b,hi,hy⟩:=LL hS h1
   by_cases h3:ym ss
   ·have:=hy.2 h3
    subst this
    cases h4:yg ss with
    |none=>
     have:=JA hS (n:=130) (V:= .ma) rfl (.inr rfl) (.inl rfl) (hb.2.2.1 h1 h2 h4) hi
     exact⟨.Kg,130,this,fun _=>rfl,fun h=>absurd h1 h,fun _ h=>absurd h2 h,fun _ _ h=>absurd h3 h,fun _ _ _ _=>rfl,fun l _ _ _ h=>(by cases h)⟩
    |some l=>
     obtain⟨T,t1,t2⟩:=JC hS h1 h2 h4 hi
     refine⟨T,0,t1,fun h=>absurd rfl h,fun h=>absurd h1 h,fun _ h=>absurd h2 h,fun _ _ h=>absurd h3 h,fun _ _ _ h=>(by cases h),fun l' _ _ _ h=> ?_⟩
     injection h with h
     exact⟨rfl,h ▸ t2⟩
   ·have hyf:y=false:=by cases y with | false=>rfl | true=>exact absurd (hy.1 rfl) h3
    subst hyf
    have key:∃ n V,(AV.pv V).one=true∧(n=0∨n=130)∧wc [.agg [S]]=some (.uc [.agg [V],i64 n]):=by
     cases h4:yg ss with
     |none=>exact⟨130,.ma,rfl,.inr rfl,hb.2.2.1 h1 h2 h4⟩
     |some l=>exact⟨0,zj l,rfl,.inl rfl,hb.2.2.2 h1 h2 l h4⟩
    obtain⟨n,V,k1,k2,k3⟩:=key
    have:=JA hS k1 k2 (.inr rfl) k3 hi
    exact⟨.Kg,111,this,fun _=>rfl,fun h=>absurd h1 h,fun _ h=>absurd h2 h,fun _ _ _=>rfl,fun _ _ h=>absurd h h3,fun l _ _ h=>absurd h h3⟩
  ·have:=ZA hS (n:=110) (V:= .ma) rfl (by decide) (by decide) (hb.2.1 h1 h2)
   exact⟨.Kg,110,this,fun _=>rfl,fun h=>absurd h1 h,fun _ _=>rfl,fun _ h=>absurd h h2,fun _ h=>absurd h h2,fun l _ h=>absurd h h2⟩
 ·have:=ZA hS (n:=84) (V:= .ma) rfl (by decide) (by decide) (hb.1 h1)
  exact⟨.Kg,84,this,fun _=>rfl,fun _=>rfl,fun h=>absurd h h1,fun h=>absurd h h1,fun h=>absurd h h1,fun l h=>absurd h h1⟩
theorem eO {S:PV} {ss:List Rb} {es:List PV} (hS:wb S ss es):∃ T n,Fb [.agg [S]]=some (.uc [T,i64 n])∧
 ((n≠0∧T= .Kg)∨(n=0∧qc ss∧Fg ss∧ym ss∧∃ l,yg ss=some l∧Sn T ss l∧∀ e∈l,ij e)):=by
 obtain⟨T,n,hc,hn,h1,h2,h3,h4,h5⟩:=gp hS
 refine⟨T,n,hc,?_⟩
 by_cases h0:n=0
 ·refine .inr ⟨h0,?_⟩
  by_cases k1:qc ss
  ·by_cases k2:Fg ss
   ·by_cases k3:ym ss
    ·cases k4:yg ss with
     |none=>have:=h4 k1 k2 k3 k4;omega
     |some l=>exact⟨k1,k2,k3,l,rfl,(h5 l k1 k2 k3 k4).2,kC k1 k2 k4⟩
    ·have:=h3 k1 k2 k3;omega
   ·have:=h2 k1 k2;omega
  ·have:=h1 k1;omega
 ·exact .inl ⟨h0,hn h0⟩
end Go.AM.B1
namespace Go.AM.B1
open Go.AM Go.AM.So
theorem OC {p q:Rb} (op:Zd p) (oq:Zd q) (hle:p.parts.length≤q.parts.length):Oe p q=true↔∀ k (h1:k < p.parts.length) (h2:k < q.parts.length),∃ x,x < 256∧Li p.parts[k] x=true∧Li q.parts[k] x=true:=by
 have key:∀ (m i:Nat),i+m=p.parts.length→((Wb p.parts q.parts m i).isSome=true↔∀ k,i≤k→(h1:k < p.parts.length)→(h2:k < q.parts.length)→∃ x,x < 256∧Li p.parts[k] x=true∧Li q.parts[k] x=true):=by
  intro m
  induction m with
  |zero=>intro i hi;exact⟨fun _ k hk h1=>by omega,fun _=>rfl⟩
  |succ m ih=>
   intro i hi
   have h1:i < p.parts.length:=by omega
   have h2:i < q.parts.length:=by omega
   have hm:=Gx h1 h2 (op.parts _ (List.getElem_mem h1)).2 (oq.parts _ (List.getElem_mem h2)).2
   have hI:=ih (i+1) (by omega)
   rw[Wb]
   cases hmt:vo p.parts q.parts i with
   |nil=>
    constructor
    ·intro h;cases h
    ·intro h;exact absurd hmt (hm.2 (h i (Nat.le_refl _) h1 h2))
   |cons a r=>
    simp only[Option.isSome_map]
    rw[hI]
    constructor
    ·intro h k hk g1 g2
     rcases Nat.lt_or_ge i k with h3 | h3
     ·exact h k h3 g1 g2
     ·have:k=i:=by omega
      subst this
      exact hm.1 (by rw[hmt];simp)
    ·intro h k hk;exact h k (by omega)
 have:=key p.parts.length 0 (by omega)
 unfold Oe
 rw[this]
 exact⟨fun h k h1 h2=>h k (by omega) h1 h2,fun h k _ h1 h2=>h k h1 h2⟩
theorem bE {p q:Rb} (op:Zd p) (oq:Zd q) (h:p.parts.length=q.parts.length):Oe p q=Oe q p:=by
 rw[Bool.eq_iff_iff,OC op oq (by omega),OC oq op (by omega)]
 constructor
 ·intro k i h1 h2;obtain⟨x,a,b,c⟩:=k i h2 h1;exact⟨x,a,c,b⟩
 ·intro k i h1 h2;obtain⟨x,a,b,c⟩:=k i h2 h1;exact⟨x,a,c,b⟩
def sC (ss:List Rb) (i j:Nat):Prop:=(hi:i < ss.length)→(hj:j < ss.length)→j < i→ss[i].parts.length=ss[j].parts.length→Oe ss[i] ss[j]=false
theorem nF {ss:List Rb} (Ba:qc ss):ym ss↔∀ i j,sC ss i j:=by
 constructor
 ·intro h i j hi hj hlt he
  rw[bE (Ba.Av _ (List.getElem_mem hi)) (Ba.Av _ (List.getElem_mem hj)) he]
  exact h j i hj hi hlt he.symm
 ·intro h i j hi hj hlt he
  rw[bE (Ba.Av _ (List.getElem_mem hi)) (Ba.Av _ (List.getElem_mem hj)) he]
  exact h j i hj hi hlt he.symm
section
variable {S:PV} {ss:List Rb} {es:List PV} (hS:wb S ss es) (Ba:qc ss)
include hS Ba
theorem GH (call:Ua) {i:Nat} (hi:i < ss.length) {E:Tr} (h1:E.get 1= .pv (.rp [S] 0)) (h4:E.get 4= .pv (i64 i)) (h5:E.get 5= .pv (i64 0)):
 Ld (fun r=>r.1.stop=true∧((∃ E',r=(.exit 2,⟨E',[]⟩)∧Nd [1,4] E E'∧∀ j,sC ss i j)∨∃ E',r=(.ret,⟨E',[]⟩)∧E'.get 2= .pv (.bool false)∧E'.get 3= .pv (i64 0)∧¬ym ss))
  (pa call (.loop [1,4,5] qd) ⟨E,[]⟩):=by
 have h32:=Ba.len
 have ln:=hS.Sb
 obtain⟨P,ps,hP,a1⟩:=hS.Ad hi
 have okp:=Ba.Av _ (List.getElem_mem hi)
 have lP:=hP.parts.Sb
 refine pn (fun j t=>Nd [1,4] E t.env∧t.env.get 5= .pv (i64 j)∧t.H=[]∧∀ j',j' < j→sC ss i j') i (by unfold qa;omega)
  (Ig.all rfl (by simp) (Fit.cons h1 Ja (.cons h4 Ja (.cons h5 Ja (.nil _ _)))) fun E' hE=>⟨Nd.sub hE rfl,by rw[hE 5 (by simp),h5];rfl,rfl,fun j h=>by omega⟩) ?_ ?_
 ·rintro j ⟨E1,H1⟩ hj ⟨k1,k5,k3,hs⟩
  simp only at k1 k5 k3
  subst k3
  have hjl:j < ss.length:=by omega
  have g1:=(k1 1 (by simp)).trans h1
  have g4:=(k1 4 (by simp)).trans h4
  obtain⟨Q,qs,hQ,a2⟩:=hS.Ad hjl
  have okq:=Ba.Av _ (List.getElem_mem hjl)
  have hcm:=fun (h:ss[i].parts.length≤ss[j].parts.length)=>Bv hP hQ okp okq (n:=ss[i].parts.length) (Nat.le_refl _) h
  have lQ:=hQ.parts.Sb
  have hat:∀ b,(ss[i].parts.length=ss[j].parts.length→Oe ss[i] ss[j]=b)→b=false→∀ j',j' < j+1→sC ss i j':=by
   intro b hb hb0 j' hj'
   rcases Nat.lt_or_ge j' j with h3 | h3
   ·exact hs j' h3
   ·have:j'=j:=by omega
    subst this
    intro _ _ _ he
    rw[hb he,hb0]
  have hbad:ss[i].parts.length=ss[j].parts.length→Oe ss[i] ss[j]=true→¬ym ss:=fun he hm h=>by
   have:=(nF Ba).1 h i j hi hjl hj he
   rw[hm] at this;cases this
  unfold Oe at hat hbad
  generalize ss[i]=p at *
  generalize ss[j]=q at *
  have e1:decide ((j:Int) < (i:Int))=true:=Fa (by omega)
  have t2:IntKind.i64.wrap ((j:Int)+1)=((j+1:Nat):Int):=Wk (by omega)
  have fin:(∀ j',j' < j+1→sC ss i j')→∀ E2:Tr,Nd [1,4] E E2→E2.get 5= .pv (i64 (j+1:Nat))→Ig ([]:List ba).length [1,4,5] (fun t=>Nd [1,4] E t.env∧t.env.get 5= .pv (i64 (j+1:Nat))∧t.H=[]∧∀ j',j' < j+1→sC ss i j') ⟨E2,[]⟩:=fun hn E2 kk z5=>
   Ig.all rfl (by simp) (Fit.sub (.cons z5 Ja (Fit.ze (l:=[1,4]) (.cons h1 Ja (.cons h4 Ja (.nil _ _))) kk)) rfl) fun E' hE=>⟨kk.trans (Nd.sub hE rfl),by rw[hE 5 (by simp),z5],rfl,hn⟩
  generalize hQQ:RQ _ _ _ _=QQ
  by_cases c1:p.parts.length=q.parts.length
  ·have d1:((p.parts.length:Int)==(q.parts.length:Int))=true:=by rw[c1];simp
   obtain⟨v,hv⟩:=hcm (by omega)
   cases hb:(Wb p.parts q.parts p.parts.length 0).isSome with
   |true=>
    rw[hb] at hv
    simp -implicitDefEqProofs only[SX,sevalprocAttr,qd,g1,g4,k5,e1,Yb,Va,Ic,yd,Df,a1,a2,lP,lQ,d1,hv]
    subst hQQ
    exact .inr ⟨_,rfl,by simp[Tr.aa],by simp[Tr.aa],hbad c1 hb⟩
   |false=>
    rw[hb] at hv
    simp -implicitDefEqProofs only[SX,sevalprocAttr,qd,g1,g4,k5,e1,t2,Yb,Va,Ic,yd,Df,a1,a2,lP,lQ,d1,hv]
    subst hQQ
    rw[Cl]
    generalize hEE:(Tr.set _ 5 _:Tr)=E2
    refine fin (hat false (fun _=>hb) rfl) E2 (by rw[← hEE];(repeat refine Nd.set ?_ rfl);exact k1) (by rw[← hEE];simp[Tr.aa])
  ·have d1:((p.parts.length:Int)==(q.parts.length:Int))=false:=beq_false_of_ne (by omega)
   simp -implicitDefEqProofs only[SX,sevalprocAttr,qd,g1,g4,k5,e1,t2,Yb,Va,Ic,yd,Df,a1,a2,lP,lQ,d1]
   subst hQQ
   rw[Cl]
   generalize hEE:(Tr.set _ 5 _:Tr)=E2
   refine fin (hat false (fun h=>absurd h c1) rfl) E2 (by rw[← hEE];(repeat refine Nd.set ?_ rfl);exact k1) (by rw[← hEE];simp[Tr.aa])
 ·rintro⟨E1,H1⟩ ⟨k1,k5,k3,hs⟩
  simp only at k1 k5 k3
  subst k3
  have g4:=(k1 4 (by simp)).trans h4
  have e1:decide ((i:Int) < (i:Int))=false:=Ka (by omega)
  generalize hQ:(fun r:Ex×St=>r.1.stop=true∧_)=QQ
  simp -implicitDefEqProofs only[SX,sevalprocAttr,qd,g4,k5,e1]
  subst hQ
  refine⟨rfl,.inl ⟨_,rfl,?_,fun j a b c=>hs j c a b c⟩⟩
  repeat refine Nd.set ?_ rfl
  exact k1
theorem Rx:∃ b,ue [.agg [S]]=some (.uc [.bool b,i64 0])∧(b=true↔ym ss):=by
 have ln:=hS.Sb
 have hS1:(AV.pv S).one=true:=by rcases hS.is with⟨h,_⟩ | h <;> rw[h] <;> rfl
 obtain⟨b,hb,hbb⟩:=zv hS
 have:=hbb.2 Ba
 subst this
 have h32:=Ba.len
 have hloop:=fun (E:Tr) (h1:E.get 1= .pv (.rp [S] 0)) (h4:E.get 4= .pv (i64 0))=>
  pn (call:=Ea (fun _=>none) 8) (b:=Tf) (live:=[1,4]) (s:=⟨E,[]⟩) (Q:=fun r=>(∃ E',r=(.exit 0,⟨E',[]⟩)∧ym ss)∨∃ E',r=(.ret,⟨E',[]⟩)∧E'.get 2= .pv (.bool false)∧E'.get 3= .pv (i64 0)∧¬ym ss)
   (fun i t=>Nd [1] E t.env∧t.env.get 4= .pv (i64 i)∧t.H=[]∧∀ i',i' < i→∀ j,sC ss i' j) ss.length (by unfold qa;omega)
   (Ig.all rfl (by simp) (Fit.cons h1 Ja (.cons h4 Ja (.nil _ _))) fun E' hE=>⟨Nd.sub hE rfl,by rw[hE 4 (by simp),h4];rfl,rfl,fun i h=>by omega⟩)
   (by
    rintro i ⟨E1,H1⟩ hi ⟨k1,k4,k3,hs⟩
    simp only at k1 k4 k3
    subst k3
    have g1:=(k1 1 (by simp)).trans h1
    have e1:decide ((i:Int) < (ss.length:Int))=true:=Fa (by omega)
    have t2:=Ya hi (by unfold maxLen;omega)
    generalize hQQ:RQ _ _ _ _=QQ
    simp -implicitDefEqProofs only[SX,sevalprocAttr,Tf,g1,k4,ln,e1,Yb,Va]
    generalize hEE:(Tr.set _ 5 _:Tr)=E2
    have z1:E2.get 1= .pv (.rp [S] 0):=by rw[← hEE];simp[Tr.aa,g1]
    have z4:E2.get 4= .pv (i64 i):=by rw[← hEE];simp[Tr.aa,k4]
    refine za (GH hS Ba _ hi z1 z4 (by rw[← hEE];simp[Tr.aa])) ?_
    rintro _ ⟨_,⟨E3,rfl,k6,hp⟩ | ⟨E3,rfl,g2,g3,hp⟩⟩
    ·have y4:=(k6 4 (by simp)).trans z4
     simp -implicitDefEqProofs only[SX,sevalprocAttr,y4,t2]
     subst hQQ
     rw[Cl]
     generalize hE4:(Tr.set _ 4 _:Tr)=E4
     have y1:E4.get 1= .pv (.rp [S] 0):=by rw[← hE4];simp[Tr.aa];exact (k6 1 (by simp)).trans z1
     have y4:E4.get 4= .pv (i64 (i+1:Nat)):=by rw[← hE4];simp[Tr.aa]
     exact Ig.all rfl (by simp) (Fit.cons y1 Ja (.cons y4 Ja (.nil _ _))) fun E' hE=>⟨fun t ht=>by
      rw[List.mem_singleton] at ht;subst ht
      rw[hE 1 (by simp),y1,h1],by rw[hE 4 (by simp),y4],rfl,fun i' hi' j=>by
      rcases Nat.lt_or_ge i' i with h3 | h3
      ·exact hs i' h3 j
      ·have:i'=i:=by omega
       subst this;exact hp j⟩
    ·simp -implicitDefEqProofs only[SX,sevalprocAttr]
     subst hQQ
     exact .inr ⟨_,rfl,g2,g3,hp⟩)
   (by
    rintro⟨E1,H1⟩ ⟨k1,k4,k3,hs⟩
    simp only at k1 k4 k3
    subst k3
    have g1:=(k1 1 (by simp)).trans h1
    have e1:decide ((ss.length:Int) < (ss.length:Int))=false:=Ka (by omega)
    generalize hQ:(fun r:Ex×St=>r.1.stop=true∧_)=QQ
    simp -implicitDefEqProofs only[SX,sevalprocAttr,Tf,g1,k4,ln,e1,Yb,Va]
    subst hQ
    exact⟨rfl,.inl ⟨_,rfl,(nF Ba).2 fun i j hi hj=>hs i hi j hi hj⟩⟩)
 have key:Ld (fun r=>∃ b,r=PV.uc [.bool b,i64 0]∧(b=true↔ym ss)) (ue [.agg [S]]):=by
  generalize hQQ:(fun r:PV=>_)=QQ
  simp -implicitDefEqProofs only[ue,SX,sevalprocAttr,Qi,hS1,Yb,Va,Af,hb]
  generalize hEE:(Tr.set _ 4 _:Tr)=E
  refine za (hloop E (by rw[← hEE];simp[Tr.aa]) (by rw[← hEE];simp[Tr.aa])) ?_
  rintro _ ⟨_,⟨E',rfl,hp⟩ | ⟨E',rfl,g2,g3,hp⟩⟩
  ·simp -implicitDefEqProofs only[SX,sevalprocAttr]
   subst hQQ
   exact⟨true,rfl,by simpa using hp⟩
  ·simp -implicitDefEqProofs only[SX,sevalprocAttr,g2,g3]
   subst hQQ
   exact⟨false,rfl,by simpa using hp⟩
 obtain⟨r,h1,b,rfl,hb⟩:=Gc key
 exact⟨b,h1,hb⟩
end
theorem gG {S V:PV} {ss:List Rb} {es:List PV} (hS:wb S ss es) {m:Int} (hV:(AV.pv V).one=true) (hm:m=84∨m=110) (hb:Xa [.agg [S]]=some (.uc [.agg [V],i64 m])):Uc [.agg [S]]=some (.uc [.agg [.ma],i64 m]):=by
 have hS1:(AV.pv S).one=true:=by rcases hS.is with⟨h,_⟩ | h <;> rw[h] <;> rfl
 have s1:Ma [.box [.pv .ma],.box [.pv .ma]] 1 (.ptr 1 0) (.pv (.agg [V]))=some [.box [.pv .ma],.box [.pv V]]:=by simp[Ma,AV.cells,PV.cells,hV,na]
 have s0:Ma [.box [.pv .ma],.box [.pv V]] 1 (.ptr 0 0) (.pv (.agg [.ma]))=some [.box [.pv .ma],.box [.pv V]]:=rfl
 have ld:ya [.box [.pv .ma],.box [.pv V]] true 1 (.ptr 0 0)=some (.pv (.agg [.ma])):=rfl
 have z1:((84:Int)==84)=true:=rfl
 have z2:((110:Int)==84)=false:=rfl
 have z3:((110:Int)==110)=true:=rfl
 rcases hm with rfl | rfl <;>
 simp -implicitDefEqProofs only[Uc,SX,sevalprocAttr,Ag,hS1,Af,hb,s1,s0,ld,z1,z2,z3]
theorem Aw {S V:PV} {ss:List Rb} {es:List PV} (hS:wb S ss es) {m:Int} {b:Bool} (hV:(AV.pv V).one=true) (h1:m≠84) (h2:m≠110) (hb:Xa [.agg [S]]=some (.uc [.agg [V],i64 m])) (hi:ue [.agg [S]]=some (.uc [.bool b,i64 0])):
 Uc [.agg [S]]=some (.uc [.agg [if b then V else .ma],i64 (if b then m else 111)]):=by
 have hS1:(AV.pv S).one=true:=by rcases hS.is with⟨h,_⟩ | h <;> rw[h] <;> rfl
 have s1:Ma [.box [.pv .ma],.box [.pv .ma]] 1 (.ptr 1 0) (.pv (.agg [V]))=some [.box [.pv .ma],.box [.pv V]]:=by simp[Ma,AV.cells,PV.cells,hV,na]
 have s0:Ma [.box [.pv .ma],.box [.pv V]] 1 (.ptr 0 0) (.pv (.agg [.ma]))=some [.box [.pv .ma],.box [.pv V]]:=rfl
 have s2:Ma [.box [.pv .ma],.box [.pv V]] 1 (.ptr 0 0) (.pv (.agg [V]))=some [.box [.pv V],.box [.pv V]]:=by simp[Ma,AV.cells,PV.cells,hV,na]
 have ld:∀ W:PV,ya [.box [.pv W],.box [.pv V]] true 1 (.ptr 0 0)=some (.pv (.agg [W])):=fun W=>rfl
 have ld1:ya [.box [.pv .ma],.box [.pv V]] true 1 (.ptr 1 0)=some (.pv (.agg [V])):=rfl
 have z1:(m==84)=false:=beq_false_of_ne h1
 have z2:(m==110)=false:=beq_false_of_ne h2
 cases b <;>
 simp -implicitDefEqProofs only[Uc,SX,sevalprocAttr,Ag,hS1,Af,hb,hi,s1,s0,s2,ld,ld1,z1,z2]
theorem KG (ss:List Rb):∃ n V,(∀ (S:PV) (es:List PV),wb S ss es→Uc [.agg [S]]=some (.uc [.agg [V],i64 n]))∧(n=0→∃ l,yg ss=some l∧V=zj l)∧(AV.pv V).one=true∧
 (∀ (S:PV) (es:List PV),wb S ss es→∃ T,Fb [.agg [S]]=some (.uc [T,i64 n])∧((n≠0∧T= .Kg)∨(n=0∧qc ss∧Fg ss∧ym ss∧∃ l,yg ss=some l∧Sn T ss l∧∀ e∈l,ij e))):=by
 obtain⟨VB,lB,m,hVB,_,_,hb1,hb2⟩:=fL ss
 have hval:∀ (S:PV) (es:List PV) (V':PV) (m':Int),wb S ss es→wc [.agg [S]]=some (.uc [.agg [V'],i64 m'])→Xa [.agg [S]]=some (.uc [.agg [V'],i64 m']):=by
  intro S es V' m' hS h
  rw[hb2 S es hS,←hb1 S es hS,h]
 have Gf:∀ n:Int,(∀ (S:PV) (es:List PV),wb S ss es→∀ T k,Fb [.agg [S]]=some (.uc [T,i64 k])→k=n)→∀ (S:PV) (es:List PV),wb S ss es→∃ T,Fb [.agg [S]]=some (.uc [T,i64 n])∧((n≠0∧T= .Kg)∨(n=0∧qc ss∧Fg ss∧ym ss∧∃ l,yg ss=some l∧Sn T ss l∧∀ e∈l,ij e)):=by
  intro n hn S es hS
  obtain⟨T,k,h1,h2⟩:=eO hS
  obtain rfl:=hn S es hS T k h1
  exact⟨T,h1,h2⟩
 have same:∀ {S:PV} {T T':PV} {k k':Int},Fb [.agg [S]]=some (.uc [T,i64 k])→Fb [.agg [S]]=some (.uc [T',i64 k'])→k=k':=by
  intro S T T' k k' h1 h2
  rw[h1] at h2
  injection h2 with h2
  injection h2 with h2
  injection h2 with _ h2
  injection h2 with h2 _
  injection h2
 have aut:yg ss=none∨∃ l,yg ss=some l:=by
  cases yg ss with
  |none=>exact .inl rfl
  |some l=>exact .inr ⟨l,rfl⟩
 have one:∀ {l:List (List xe)},(AV.pv (zj l)).one=true:=fun {l}=>rfl
 by_cases h1:qc ss
 ·by_cases h2:Fg ss
  ·by_cases h3:ym ss
   ·rcases aut with h4 | ⟨l,h4⟩
    ·skip
     refine⟨130,.ma,fun S es hS=> ?_,fun h=>(by cases h),rfl,Gf 130 fun S es hS T k hk=> ?_⟩
     ·obtain⟨b,i1,i2⟩:=Rx hS h1
      have:=i2.2 h3
      subst this
      exact Aw hS rfl (by decide) (by decide) (hval S es _ _ hS ((ei hS).2.2.1 h1 h2 h4)) i1
     ·obtain⟨T',n,t1,_,_,_,_,t2,_⟩:=gp hS
      have:=t2 h1 h2 h3 h4
      subst this
      exact same hk t1
    ·skip
     refine⟨0,zj l,fun S es hS=> ?_,fun _=>⟨l,h4,rfl⟩,one,Gf 0 fun S es hS T k hk=> ?_⟩
     ·obtain⟨b,i1,i2⟩:=Rx hS h1
      have:=i2.2 h3
      subst this
      exact Aw hS one (by decide) (by decide) (hval S es _ _ hS ((ei hS).2.2.2 h1 h2 l h4)) i1
     ·obtain⟨T',n,t1,_,_,_,_,_,t2⟩:=gp hS
      have:=(t2 l h1 h2 h3 h4).1
      subst this
      exact same hk t1
   ·refine⟨111,.ma,fun S es hS=> ?_,fun h=>(by cases h),rfl,Gf 111 fun S es hS T k hk=> ?_⟩
    ·obtain⟨b,i1,i2⟩:=Rx hS h1
     have hb:b=false:=by cases b with | false=>rfl | true=>exact absurd (i2.1 rfl) h3
     subst hb
     cases h4:yg ss with
     |none=>exact Aw hS (V:= .ma) rfl (by decide) (by decide) (hval S es _ _ hS ((ei hS).2.2.1 h1 h2 h4)) i1
     |some l=>exact Aw hS one (by decide) (by decide) (hval S es _ _ hS ((ei hS).2.2.2 h1 h2 l h4)) i1
    ·obtain⟨T',n,t1,_,_,_,t2,_⟩:=gp hS
     have:=t2 h1 h2 h3
     subst this
     exact same hk t1
  ·refine⟨110,.ma,fun S es hS=>gG hS (V:= .ma) rfl (.inr rfl) (hval S es _ _ hS ((ei hS).2.1 h1 h2)),fun h=>(by cases h),rfl,Gf 110 fun S es hS T k hk=> ?_⟩
   obtain⟨T',n,t1,_,_,t2,_⟩:=gp hS
   have:=t2 h1 h2
   subst this
   exact same hk t1
 ·refine⟨84,.ma,fun S es hS=>gG hS (V:= .ma) rfl (.inl rfl) (hval S es _ _ hS ((ei hS).1 h1)),fun h=>(by cases h),rfl,Gf 84 fun S es hS T k hk=> ?_⟩
  obtain⟨T',n,t1,_,t2,_⟩:=gp hS
  have:=t2 h1
  subst this
  exact same hk t1
end Go.AM.B1
namespace Go.AM.B1
open Go.AM Go.AM.So
def jH (ls:List (List (Int×Int))) (i:Nat):List PV:=(List.range 258).map fun k=>YG ls (i * 258+k)
theorem TG (H:List ba) (d o:Nat) (row:List PV):place H d (.pv (.rp row o))=some (.pv (.rp row (o+d))):=rfl
theorem tY (H:List ba) (o n:Nat) (row:List PV):place H (n * 1) (.pv (.rp row o))=some (.pv (.rp row (o+n))):=by rw[Nat.mul_one];rfl
theorem MF {ls:List (List (Int×Int))} {i:Nat} (hi:i < ls.length) (H:List ba):wa H 258 (.pv (.lit 258 ((List.range ls.length).map (WH ls)))) (i:Int)=some (.pv (.rp (jH ls i) 0)):=by
 simp only[wa]
 rw[if_pos ⟨trivial,by unfold Ga;simp;omega⟩,Int.toNat_natCast,List.getElem?_map,List.getElem?_range hi];rfl
theorem SD {ls:List (List (Int×Int))} {i k:Nat} (hk:k < 258) (H:List ba):ya H false 1 (.pv (.rp (jH ls i) k))=some (.pv (YG ls (i * 258+k))):=by
 have:(jH ls i)[k]? =some (YG ls (i * 258+k)):=by rw[jH,List.getElem?_map,List.getElem?_range hk];rfl
 simp only[ya,ql,Bool.false_eq_true,if_false,this];rfl
theorem GW {ls:List (List (Int×Int))} {i:Nat} (H:List ba):ya H false 1 (.pv (.rp (jH ls i) 0))=some (.pv (Bo (ls.getD i []))):=by
 rw[SD (by omega),YG,if_pos (by omega),show (i * 258+0) / 258=i by omega]
theorem WR {ls:List (List (Int×Int))} {i:Nat} (H:List ba):ya H false 1 (.pv (.rp (jH ls i) 257))=some (.pv (i64 (Qa (ls.drop (i+1))))):=by
 rw[SD (by omega),YG,if_neg (by omega),if_pos (by omega),show (i * 258+257) / 258=i by omega]
theorem OW {ls:List (List (Int×Int))} {i y:Nat} (hy:y < 256) (H:List ba):ya H false 1 (.pv (.rp (jH ls i) (1+y)))=some (.pv (Au (ls.getD i []) y)):=by
 rw[SD (by omega),YG,if_neg (by omega),if_neg (by omega),show (i * 258+(1+y)) / 258=i by omega,show (i * 258+(1+y)) % 258 - 1=y by omega]
theorem YN {ls:List (List (Int×Int))} {i:Nat} (hi:i < ls.length):ls.getD i []=ls[i]:=by rw[List.getD_eq_getElem?_getD,List.getElem?_eq_getElem hi];rfl
abbrev MI (C B:PV) (n i k:Int):Tr:=((((Tr.lf.set 22 (.pv (i64 i))).set 21 (.pv (i64 n))).set 6 (.pv (i64 k))).set 1 (.pv B)).set 0 (.pv (.rp [C] 0))
theorem IH {s:Rb} {B:PV} {bs:List Int} (hB:Yi B bs) (Ba:Zd s):
 (∀ k,Sl s bs=some k→Xe [Ii s.parts,B]=some (.uc [i64 k,.bool true]))∧(Sl s bs=none→Xe [Ii s.parts,B]=some (.uc [i64 0,.bool false])):=by
 have lB:=hB.Sb
 have h8:=Ba.hi
 have hpr:=Ba.prod.2
 have hia:=fun {i:Nat} (hi:i < s.parts.length)=>MF (ls:=s.parts) hi
 have hcl:((List.range s.parts.length).map (WH s.parts)).length=s.parts.length:=by simp
 have hdg:Ii s.parts= .rp [.lit 258 ((List.range s.parts.length).map (WH s.parts))] 0:=rfl
 rw[hdg]
 generalize (List.range s.parts.length).map (WH s.parts)=C at *
 by_cases hlen:bs.length=s.parts.length
 ·have hrk:Sl s bs=Xi s.parts bs 0:=by unfold Sl;rw[if_pos hlen]
  have hloop:Ld (fun r=>∃ E,(r=(.ret,⟨E,[]⟩)∧E.get 4= .pv (i64 0)∧E.get 5= .pv (.bool false)∧Xi s.parts bs 0=none)∨(∃ k,r=(.exit 0,⟨E,[]⟩)∧E.get 6= .pv (i64 k)∧Xi s.parts bs 0=some k))
   (qb (fa (pa (Ea (fun _=>none) 8) Jd) (ga 0 [0,1,6,21,22])) qa ⟨MI (.lit 258 C) B s.parts.length 0 0,[]⟩):=by
   refine za (Eb (g:=fa (pa (Ea (fun _=>none) 8) Jd) (ga 0 [0,1,6,21,22]))
    (fun i t=>∃ k,t=⟨MI (.lit 258 C) B s.parts.length i k,[]⟩∧0≤k∧k+Qa (s.parts.drop i)≤Qa s.parts∧Xi s.parts bs 0=Xi (s.parts.drop i) (bs.drop i) k)
    s.parts.length (by unfold qa;omega) _ ⟨0,rfl,by omega,by simp,rfl⟩ ?_ ?_) (fun r h=>h.2)
   ·rintro i t hi ⟨k,rfl,hk0,hk1,hs⟩
    have hpo:=Ba.parts s.parts[i] (List.getElem_mem hi)
    have hib:i < bs.length:=by omega
    have a3:=hB.Ad hib
    have hbr:=hB.nE bs[i] (List.getElem_mem hib)
    have hd:s.parts.drop i=s.parts[i]::s.parts.drop (i+1):=List.drop_eq_getElem_cons hi
    have hdb:bs.drop i=bs[i]::bs.drop (i+1):=List.drop_eq_getElem_cons hib
    have hrb:=Fq (x:=bs[i]) (n:=0) hpo.2
    rw[hd,Qa] at hk1
    rw[hd,hdb,Xi] at hs
    have hle:=Ym Ba.parts (i+1)
    have hpos:=sg (ls:=s.parts.drop (i+1)) fun x hx=>Ba.parts x (List.mem_of_mem_drop hx)
    have hsz:=sh hpo
    have a1:=hia hi
    have a4:=WR (ls:=s.parts) (i:=i)
    have a5:=OW (ls:=s.parts) (i:=i) (y:=(bs[i]).toNat) (by omega)
    rw[YN hi] at a5
    generalize jH s.parts i=R at *
    generalize s.parts[i]=l at *
    generalize bs[i]=x at *
    have hwp:Au l x.toNat= .int .u16 (if (Cf x 0 l).2 then (Cf x 0 l).1+1 else 0):=by unfold Au;rw[Int.toNat_of_nonneg hbr.1]
    rw[hwp] at a5
    have e1:decide ((i:Int) < (s.parts.length:Int))=true:=Fa (by omega)
    have t2:=Ya hi (by unfold maxLen;omega)
    have hidx:(0≤x∧x < ((256:Nat):Int))=True:=eq_true (by omega)
    obtain⟨⟨d,is⟩,hrk2⟩:∃ r,r=Cf x 0 l:=⟨_,rfl⟩
    rw[← hrk2] at hs hrb a5
    generalize hQ:LN _ _ i=Q
    cases is with
    |false=>
     simp only[Bool.false_eq_true,if_false] at hs a5
     have t3:IntKind.i64.wrap 0=0:=rfl
     have z1:((0:Int)==0)=true:=rfl
     simp -implicitDefEqProofs only[SX,sevalprocAttr,Jd,e1,a1,a3,a5,TG,tY,Va,hidx,t3,z1,MI]
     subst hQ
     exact⟨_,.inl ⟨rfl,by simp[Tr.aa],by simp[Tr.aa],hs⟩⟩
    |true=>
     simp only[if_true] at hs a5
     have hb2:=hrb rfl
     simp only at hb2
     have hmul:d * Qa (s.parts.drop (i+1))+Qa (s.parts.drop (i+1))≤Qa (s.parts.drop (i+1)) * Bc 0 l:=by
      have h1:(d+1) * Qa (s.parts.drop (i+1))≤Bc 0 l * Qa (s.parts.drop (i+1)):=Int.mul_le_mul_of_nonneg_right (by omega) (by omega)
      rw[Int.add_mul,Int.one_mul,Int.mul_comm (Bc 0 l)] at h1
      exact h1
     have hm0:0≤d * Qa (s.parts.drop (i+1)):=Int.mul_nonneg (by omega) (by omega)
     have t3:IntKind.i64.wrap (d+1)=d+1:=Da (by omega)
     have t6:IntKind.i64.wrap (d+1 - 1)=d:=by rw[show d+1 - 1=d by omega];exact Da (by omega)
     have z1:((d+1:Int)==0)=false:=by simp;omega
     have t4:IntKind.i64.wrap (d * Qa (s.parts.drop (i+1)))=d * Qa (s.parts.drop (i+1)):=Da (by omega)
     have t5:IntKind.i64.wrap (k+d * Qa (s.parts.drop (i+1)))=k+d * Qa (s.parts.drop (i+1)):=Da (by omega)
     simp -implicitDefEqProofs only[SX,sevalprocAttr,Jd,e1,t2,t3,t4,t5,t6,z1,a1,a3,a4,a5,TG,tY,Va,hidx,ga,Aa,AV.cut,ua,MI]
     subst hQ
     exact⟨_,rfl,by omega,by omega,hs⟩
   ·rintro t ⟨k,rfl,hk0,hk1,hs⟩
    rw[List.drop_length,Jt] at hs
    have e1:decide ((s.parts.length:Int) < (s.parts.length:Int))=false:=Ka (by omega)
    generalize hQ:(fun r:Ex×St=>r.1.stop=true∧_)=Q
    simp -implicitDefEqProofs only[SX,sevalprocAttr,Jd,e1,MI]
    subst hQ
    exact⟨rfl,_,.inr ⟨k,rfl,by simp[Tr.aa],hs⟩⟩
  obtain⟨r,h1,E,h2⟩:=Gc hloop
  have h1':qb (fa (pa (Ea (fun _=>none) 8) Jd) (ga 0 [0,1,6,21,22])) qa ⟨((((Tr.lf.set 22 (.pv (.int .i64 0))).set 21 (.pv (i64 s.parts.length))).set 6 (.pv (.int .i64 0))).set 1 (.pv B)).set 0 (.pv (.rp [.lit 258 C] 0)),[]⟩=some r:=h1
  have d1:((bs.length:Int) != (s.parts.length:Int))=false:=by rw[hlen];simp
  rw[hrk]
  rcases h2 with⟨rfl,h4,h5,hn⟩ | ⟨k,rfl,h6,hk⟩
  ·refine⟨fun k hk=>by (rw[hn] at hk;cases hk),fun _=> ?_⟩
   simp -implicitDefEqProofs only[Xe,SX,sevalprocAttr,fh,Bb,TG,Va,lB,hcl,d1,ga,Aa,AV.cut,ua,h1',h4,h5]
  ·refine⟨fun k' hk'=> ?_,fun hn=>by (rw[hk] at hn;cases hn)⟩
   obtain rfl:k=k':=Option.some.inj (hk.symm.trans hk')
   simp -implicitDefEqProofs only[Xe,SX,sevalprocAttr,fh,Bb,TG,Va,lB,hcl,d1,ga,Aa,AV.cut,ua,h1',h6]
 ·have d1:((bs.length:Int) != (s.parts.length:Int))=true:=by
   have:(bs.length:Int)≠(s.parts.length:Int):=by omega
   simp[this]
  have hrk:Sl s bs=none:=by unfold Sl;rw[if_neg hlen]
  refine⟨fun k hk=>by (rw[hrk] at hk;cases hk),fun _=> ?_⟩
  simp -implicitDefEqProofs only[Xe,SX,sevalprocAttr,fh,TG,Va,lB,hcl,d1]
theorem IV {l:List (Int×Int)} (h:xd l) {k x:Int} (h0:0≤k) (h1:k < Bc 0 l) (hx:AR k l=some x):(lk l)[k.toNat]? =some x:=by
 obtain⟨y,q1,_,_,_,q5⟩:=mw h.2 h0 h1
 rw[hx] at q1;injection q1 with q1;subst q1
 have hr:=q5 0
 obtain⟨m,e1,e2⟩:=Zt (n:=0) h.2 (by rw[hr])
 rw[hr] at e2
 simp only at e2
 rw[show k.toNat=m by omega];exact e1
abbrev NM (C:PV) (n i k:Int) (es:List PV):Tr:=((((Tr.lf.set 19 (.pv (i64 i))).set 18 (.pv (i64 n))).set 5 (.uq 0 false 1 es)).set 1 (.pv (i64 k))).set 0 (.pv (.rp [C] 0))
theorem nC {s:Rb} (Ba:Zd s) {k:Int} (h0:0≤k) (h1:k < Qa s.parts):Lj [Ii s.parts,i64 k]=some (.lit 1 ((bh s.parts k).map (PV.int .u8))):=by
 have h8:=Ba.hi
 have hpr:=Ba.prod.2
 have hia:=fun {i:Nat} (hi:i < s.parts.length)=>MF (ls:=s.parts) hi
 have hcl:((List.range s.parts.length).map (WH s.parts)).length=s.parts.length:=by simp
 have hdg:Ii s.parts= .rp [.lit 258 ((List.range s.parts.length).map (WH s.parts))] 0:=rfl
 rw[hdg]
 generalize (List.range s.parts.length).map (WH s.parts)=C at *
 have hloop:Ld (fun r=>∃ E H,r=(.exit 0,⟨E,H⟩)∧E.get 5= .uq 0 false 1 ((bh s.parts k).map (PV.int .u8)))
  (qb (fa (pa (Ea (fun _=>none) 8) qf) (ga 1 [0,1,5,18,19])) qa ⟨NM (.lit 258 C) s.parts.length 0 k [],[.tok 1 0 false]⟩):=by
  refine za (Eb (fun i t=>∃ j es,t=⟨NM (.lit 258 C) s.parts.length i j (es.map (PV.int .u8)),[.tok 1 i false]⟩∧0≤j∧j < Qa (s.parts.drop i)∧es.length=i∧bh s.parts k=es++bh (s.parts.drop i) j)
   s.parts.length (by unfold qa;omega) _ ⟨k,[],rfl,h0,h1,rfl,rfl⟩ ?_ ?_) (fun r h=>h.2)
  ·rintro i t hi ⟨j,es,rfl,hj0,hj1,hel,hs⟩
   have hpo:=Ba.parts s.parts[i] (List.getElem_mem hi)
   have hd:s.parts.drop i=s.parts[i]::s.parts.drop (i+1):=List.drop_eq_getElem_cons hi
   rw[hd,Qa] at hj1
   rw[hd,bh] at hs
   have hpos:=sg (ls:=s.parts.drop (i+1)) fun x hx=>Ba.parts x (List.mem_of_mem_drop hx)
   have hle:=Ym Ba.parts (i+1)
   have hdv:=LS hj0 hpos hj1
   obtain⟨x,q3,q4,q5,_⟩:=mw hpo.2 hdv.1 hdv.2.1
   rw[q3,Option.getD_some] at hs
   have hm:=IV hpo hdv.1 hdv.2.1 q3
   have hml:=getElem?_lt hm
   have hle2:=Ym Ba.parts i
   rw[hd,Qa] at hle2
   have t3:IntKind.i64.wrap (j.tdiv (Qa (s.parts.drop (i+1))))=j.tdiv (Qa (s.parts.drop (i+1))):=Da (by
    have:=hdv.2.2.2.2
    have h5:j.tdiv (Qa (s.parts.drop (i+1))) * 1≤j.tdiv (Qa (s.parts.drop (i+1))) * Qa (s.parts.drop (i+1)):=Int.mul_le_mul_of_nonneg_left hpos hdv.1
    omega)
   have a1:=hia hi
   have a4:=WR (ls:=s.parts) (i:=i)
   have a5:=GW (ls:=s.parts) (i:=i)
   rw[YN hi] at a5
   generalize jH s.parts i=R at *
   generalize s.parts[i]=l at *
   have a6:∀ H,wa H 1 (.pv (Bo l)) (j.tdiv (Qa (s.parts.drop (i+1))))=some (.pv (.rp [.int .u8 x] 0)):=fun H=>by
    simp only[wa,Bo]
    rw[if_pos ⟨trivial,by unfold Ga;rw[List.length_map];omega⟩,List.getElem?_map,hm];rfl
   have e1:decide ((i:Int) < (s.parts.length:Int))=true:=Fa (by omega)
   have t2:=Ya hi (by unfold maxLen;omega)
   have z0:(Qa (s.parts.drop (i+1))=0)=False:=by simp;omega
   have hap:=tq (A:=[.tok 1 i false]) (id:=0) (n:=i) (h:= .uq) (nl:=false) (bytes:=1) (es:=es.map (PV.int .u8)) rfl (by simp[hel]) (by unfold mb;omega) (.int .u8 x)
   rw[List.set_cons_zero] at hap
   have hbm:(es++[x]).map (PV.int .u8)=es.map (PV.int .u8)++[.int .u8 x]:=by simp
   generalize hpq:Qa (s.parts.drop (i+1))=pr at *
   generalize hQ:LN _ _ i=QQ
   simp -implicitDefEqProofs only[SP,WP,na,sevalprocAttr,qf,e1,t2,t3,z0,a1,a4,a5,a6,TG,Va,hap,ga,Aa,AV.cut,oa,ua,NM]
   subst hQ
   exact⟨_,es++[x],by rw[hbm],hdv.2.2.1,by rw[hpq];exact hdv.2.2.2.1,by simp[hel],by rw[hs];simp⟩
  ·rintro t ⟨j,es,rfl,hj0,hj1,hel,hs⟩
   rw[List.drop_length,bh,List.append_nil] at hs
   have e1:decide ((s.parts.length:Int) < (s.parts.length:Int))=false:=Ka (by omega)
   generalize hQ:(fun r:Ex×St=>r.1.stop=true∧_)=Q
   simp -implicitDefEqProofs only[SX,sevalprocAttr,qf,e1,NM]
   subst hQ
   exact⟨rfl,_,_,rfl,by rw[hs];simp[Tr.aa]⟩
 obtain⟨r,g1,E,H,rfl,g6⟩:=Gc hloop
 have g1':qb (fa (pa (Ea (fun _=>none) 8) qf) (ga 1 [0,1,5,18,19])) qa ⟨((((Tr.lf.set 19 (.pv (.int .i64 0))).set 18 (.pv (i64 s.parts.length))).set 5 (.uq 0 false 1 [])).set 1 (.pv (i64 k))).set 0 (.pv (.rp [.lit 258 C] 0)),[.tok 1 0 false]⟩=some (.exit 0,⟨E,H⟩):=g1
 have e4:mb s.parts.length 1:=by unfold mb;omega
 have e2:(0≤(s.parts.length:Int))=True:=by simp
 have e5:((0:Int)≤0)=True:=by simp
 simp -implicitDefEqProofs only[Lj,SX,sevalprocAttr,Qm,TG,Va,hcl,eq_true e4,e2,e5,Bb,ga,Aa,AV.cut,oa,ua,g1',g6,qk,fresh,de,chunk]
end Go.AM.B1
namespace Go.AM.B1
open Go.AM Go.AM.So
def oQ (es:List xe):List PV:=(List.range 256).map fun b=> .int .i8 (gk es b)
theorem YP {es:List xe} {b:Nat} (hb:b < 256) (H:List ba):ya H false 1 (.pv (.rp (oQ es) b))=some (.pv (.int .i8 (gk es b))):=by
 have:(oQ es)[b]? =some (.int .i8 (gk es b)):=by rw[oQ,List.getElem?_map,List.getElem?_range hb];rfl
 simp only[ya,ql,Bool.false_eq_true,if_false,this];rfl
theorem ES {NX:PV} {l:List (List xe)} (h:ri 256 NX (l.map Tm)) {i:Nat} (hi:i < l.length) (H:List ba):wa H 256 (.pv NX) (i:Int)=some (.pv (.rp (oQ l[i]) 0)):=by
 rw[h.lit (i:=i) (by simpa using hi)]
 simp only[wa]
 rw[if_pos ⟨trivial,by unfold Ga;rw[List.length_map];omega⟩,Int.toNat_natCast,List.getElem?_map,List.getElem?_eq_getElem hi];rfl
theorem ay (H:List ba) (a b c d e f:PV):ya H false 1 (.pv (.rp [a,b,c,d,e,f] 2))=some (.pv c)∧ya H false 1 (.pv (.rp [a,b,c,d,e,f] 3))=some (.pv d)∧ya H false 1 (.pv (.rp [a,b,c,d,e,f] 4))=some (.pv e)∧ya H false 1 (.pv (.rp [a,b,c,d,e,f] 5))=some (.pv f)∧ya H false 1 (.pv (.rp [a,b,c,d,e,f] 0))=some (.pv a)∧ya H false 1 (.pv (.rp [a,b,c,d,e,f] 1))=some (.pv b)∧ya H true 1 (.pv (.rp [a,b,c,d,e,f] 0))=some (.pv (.agg [a])):=⟨rfl,rfl,rfl,rfl,rfl,rfl,rfl⟩
section
variable {T:PV} {ss:List Rb} {l:List (List xe)} (hT:Sn T ss l) (ho:∀ e∈l,ij e)
include hT ho
theorem uO {st b:Int} (hb:0≤b∧b≤255):He [T,i64 st,u8 b]=some (.uc [i64 (Yk l st b).1,.bool (Yk l st b).2]):=by
 obtain⟨S',NX,DG,RW,rfl,_,hNX,_,_⟩:=hT.ex
 have hrp:=ay (a:=S') (b:=zj l) (c:=NX) (d:=DG) (e:=RW) (f:=i64 (zi ss))
 have l2:=fun H=>(hrp H).1
 have ln:=hNX.len
 rw[List.length_map] at ln
 generalize ([S',zj l,NX,DG,RW,i64 (zi ss)]:List PV)=R at *
 by_cases h0:st < 0
 ·have hs:Yk l st b=(0,false):=by unfold Yk;rw[if_pos h0]
  have d0:decide (st < 0)=true:=Fa h0
  rw[hs]
  simp -implicitDefEqProofs only[He,SX,sevalprocAttr,pg,su,d0]
 have d0:decide (st < 0)=false:=Ka h0
 obtain⟨i,rfl⟩:∃ i:Nat,st=(i:Int):=⟨st.toNat,by omega⟩
 by_cases h1:i < l.length
 ·have d1:decide ((i:Int)≥(l.length:Int))=false:=Ka (by omega)
  have a1:=ES hNX h1
  have hs:Yk l (i:Int) b=match fg b l[i] with
   |some t=>(t,true)
   |none=>(0,false):=by unfold Yk;rw[if_neg h0,Int.toNat_natCast,List.getElem?_eq_getElem h1] <;> rfl
  have heo:=(ho _ (List.getElem_mem h1)).nE
  rw[hs]
  generalize l[i]=es at *
  have hid:(0≤b∧b < ((256:Nat):Int))=True:=eq_true (by omega)
  have l3:=fun H=>YP (es:=es) (b:=b.toNat) (by omega) H
  have hg:gk es b.toNat=(fg b es).getD (-2):=by unfold gk;rw[Int.toNat_of_nonneg hb.1]
  rw[hg] at l3
  have rpA1:∀ H (row:List PV),place H b.toNat (.pv (.rp row 0))=some (.pv (.rp row b.toNat)):=fun H row=>by rw[TG,Nat.zero_add]
  cases hse:fg b es with
  |none=>
   rw[hse] at l3
   have z:((-2:Int)== -2)=true:=rfl
   have l3:∀ H,ya H false 1 (.pv (.rp (oQ es) b.toNat))=some (.pv (.int .i8 (-2))):=l3
   simp -implicitDefEqProofs only[He,SX,sevalprocAttr,pg,su,d0,d1,TG,rpA1,l2,ln,a1,hid,l3,z]
  |some t=>
   rw[hse] at l3
   have l3:∀ H,ya H false 1 (.pv (.rp (oQ es) b.toNat))=some (.pv (.int .i8 t)):=l3
   obtain⟨x,hx,_,_,hxt⟩:=Xv hse
   have hr:=heo x hx
   rw[hxt] at hr
   have z:(t== -2)=false:=by simp;omega
   have t1:IntKind.i64.wrap t=t:=Da (by omega)
   simp -implicitDefEqProofs only[He,SX,sevalprocAttr,pg,su,d0,d1,TG,rpA1,l2,ln,a1,hid,l3,z,t1]
 ·have d1:decide ((i:Int)≥(l.length:Int))=true:=Fa (by omega)
  have hs:Yk l (i:Int) b=(0,false):=by unfold Yk;rw[if_neg h0,Int.toNat_natCast,List.getElem?_eq_none (by omega)]
  rw[hs]
  simp -implicitDefEqProofs only[He,SX,sevalprocAttr,pg,su,d0,d1,TG,l2,ln]
end
theorem wM {T B:PV} {bs:List Int} {l:List (List xe)} (hs:∀ st b,0≤b→b≤255→He [T,i64 st,u8 b]=some (.uc [i64 (Yk l st b).1,.bool (Yk l st b).2])) (hB:Yi B bs) (hw:bs.length≤maxLen):
 ch [T,B]=some (.uc [i64 (Hh l 0 0 bs).1,i64 (Hh l 0 0 bs).2]):=by
 have lB:=hB.Sb
 obtain⟨R,hR⟩:∃ R,R=Hh l 0 0 bs:=⟨_,rfl⟩
 rw[← hR]
 have hloop:=fun (E:Tr) (h0:E.get 0= .pv T) (h1:E.get 1= .pv B) (h6:E.get 6= .pv (i64 0)) (h11:E.get 11= .pv B) (h12:E.get 12= .pv (i64 bs.length)) (h13:E.get 13= .pv (i64 0))=>
  pn (call:=Ea (fun _=>none) 8) (b:=Pe) (live:=[0,1,6,11,12,13]) (s:=⟨E,[]⟩) (Q:=fun r=>(∃ E',r=(.exit 0,⟨E',[]⟩)∧E'.get 1= .pv B∧R=((bs.length:Int),2))∨∃ E',r=(.ret,⟨E',[]⟩)∧E'.get 4= .pv (i64 R.1)∧E'.get 5= .pv (i64 R.2))
   (fun i t=>Nd [0,1,11,12] E t.env∧t.env.get 13= .pv (i64 i)∧t.H=[]∧∃ st,t.env.get 6= .pv (i64 st)∧R=Hh l i st (bs.drop i)) bs.length (by unfold qa;unfold maxLen at hw;omega)
   (Ig.all rfl (by simp) (Fit.cons h0 Ja (.cons h1 Ja (.cons h6 Ja (.cons h11 Ja (.cons h12 Ja (.cons h13 Ja (.nil _ _))))))) fun E' hE=>⟨Nd.sub hE rfl,by rw[hE 13 (by simp),h13];rfl,rfl,0,by rw[hE 6 (by simp),h6],hR⟩)
   (by
    rintro i ⟨E1,H1⟩ hi ⟨k1,k2,k3,st,k4,k5⟩
    simp only at k1 k2 k3 k4
    subst k3
    have g0:=(k1 0 (by simp)).trans h0
    have g11:=(k1 11 (by simp)).trans h11
    have g12:=(k1 12 (by simp)).trans h12
    have a1:=hB.Ad hi
    have hbr:=hB.nE bs[i] (List.getElem_mem hi)
    have hst:=hs st bs[i] hbr.1 hbr.2
    have hd:bs.drop i=bs[i]::bs.drop (i+1):=List.drop_eq_getElem_cons hi
    rw[hd,Hh] at k5
    generalize bs[i]=b at *
    have e1:decide ((i:Int) < (bs.length:Int))=true:=Fa (by omega)
    have t1:=Ya hi hw
    generalize Yk l st b=p at *
    obtain⟨to,is⟩:=p
    have hx:∀ (Q:Ex×St→Prop),Q=Q:=fun _=>rfl
    generalize hQ:RQ _ _ _ _=Q
    cases is with
    |false=>
     simp only[if_true] at k5
     simp -implicitDefEqProofs only[SX,sevalprocAttr,Pe,g0,g11,g12,k2,k4,e1,a1,Va,hst]
     subst hQ
     exact .inr ⟨_,rfl,by rw[k5];simp[Tr.aa],by rw[k5];simp[Tr.aa]⟩
    |true=>
     simp only[Bool.true_eq_false,if_false] at k5
     by_cases hto:to= -1
     ·subst hto
      rw[if_pos rfl] at k5
      have z:((-1:Int)== -1)=true:=rfl
      simp -implicitDefEqProofs only[SX,sevalprocAttr,Pe,g0,g11,g12,k2,k4,e1,a1,Va,hst,z,t1]
      subst hQ
      exact .inr ⟨_,rfl,by rw[k5];simp[Tr.aa],by rw[k5];simp[Tr.aa]⟩
     ·rw[if_neg hto] at k5
      have z:(to== -1)=false:=by simp[hto]
      simp -implicitDefEqProofs only[SX,sevalprocAttr,Pe,g0,g11,g12,k2,k4,e1,a1,Va,hst,z,t1]
      subst hQ
      rw[Cl]
      generalize hEE:(Tr.set _ 13 _:Tr)=E2
      have kk:Nd [0,1,11,12] E E2:=by
       rw[← hEE]
       repeat refine Nd.set ?_ rfl
       exact k1
      have z13:E2.get 13= .pv (i64 (i+1:Nat)):=by rw[← hEE];simp[Tr.aa]
      have z6:E2.get 6= .pv (i64 to):=by rw[← hEE];simp[Tr.aa]
      exact Ig.all rfl (by simp) (Fit.sub (.cons z13 Ja (.cons z6 Ja (Fit.ze (l:=[0,1,11,12]) (.cons h0 Ja (.cons h1 Ja (.cons h11 Ja (.cons h12 Ja (.nil _ _))))) kk))) rfl) fun E' hE=>⟨kk.trans (Nd.sub hE rfl),by rw[hE 13 (by simp),z13],rfl,to,by rw[hE 6 (by simp),z6],k5⟩)
   (by
    rintro⟨E1,H1⟩ ⟨k1,k2,k3,st,k4,k5⟩
    simp only at k1 k2 k3 k4
    subst k3
    have g12:=(k1 12 (by simp)).trans h12
    rw[List.drop_length,Hh] at k5
    have e1:decide ((bs.length:Int) < (bs.length:Int))=false:=Ka (by omega)
    generalize hQ:(fun r:Ex×St=>r.1.stop=true∧_)=Q
    simp -implicitDefEqProofs only[SX,sevalprocAttr,Pe,g12,k2,e1]
    subst hQ
    exact⟨rfl,.inl ⟨_,rfl,by rw[Tr.aa,if_neg (by decide)];exact (k1 1 (by simp)).trans h1,k5⟩⟩)
 refine bl ?_
 generalize hQ:(fun x:PV=>x=_)=Q
 simp -implicitDefEqProofs only[ch,SX,sevalprocAttr,al,lB]
 generalize hEE:(Tr.set _ 13 _:Tr)=E
 refine za (hloop E (by rw[← hEE];simp[Tr.aa]) (by rw[← hEE];simp[Tr.aa]) (by rw[← hEE];simp[Tr.aa]) (by rw[← hEE];simp[Tr.aa]) (by rw[← hEE];simp[Tr.aa]) (by rw[← hEE];simp[Tr.aa])) ?_
 rintro r ⟨_,⟨E',rfl,z1,z2⟩ | ⟨E',rfl,z4,z5⟩⟩
 ·simp -implicitDefEqProofs only[SX,sevalprocAttr,z1,lB]
  subst hQ
  rw[z2]
 ·simp -implicitDefEqProofs only[SX,sevalprocAttr,z4,z5]
  subst hQ;rfl
theorem dM {T B:PV} {ss:List Rb} {bs:List Int} {l:List (List xe)} (hT:Sn T ss l) (ho:∀ e∈l,ij e) (hB:Yi B bs) (hw:bs.length≤maxLen):
 ch [T,B]=some (.uc [i64 (Hh l 0 0 bs).1,i64 (Hh l 0 0 bs).2]):=wM (fun st b h0 h1=>uO hT ho ⟨h0,h1⟩) hB hw
end Go.AM.B1
namespace Go.AM.B1
open Go.AM Go.AM.So
def eH (a b:Int):Int:=if a < b then -1 else if a > b then 1 else 0
theorem BK (a b:Int):si [i64 a,i64 b]=some (i64 (eH a b)):=by
 have hn:∀ x:Int,Bl [i64 x]=some (.bool false):=fun x=>by
  have z:(x != x)=false:=by simp
  simp -implicitDefEqProofs only[Bl,SX,sevalprocAttr,Hu,z]
 unfold eH
 by_cases h1:a < b
 ·have d1:decide (a < b)=true:=Fa h1
  rw[if_pos h1]
  simp -implicitDefEqProofs only[si,SX,sevalprocAttr,ik,hn,d1]
 ·have d1:decide (a < b)=false:=Ka h1
  rw[if_neg h1]
  by_cases h2:a > b
  ·have d2:decide (a > b)=true:=Fa h2
   rw[if_pos h2]
   simp -implicitDefEqProofs only[si,SX,sevalprocAttr,ik,hn,d1,d2]
  ·have d2:decide (a > b)=false:=Ka h2
   rw[if_neg h2]
   simp -implicitDefEqProofs only[si,SX,sevalprocAttr,ik,hn,d1,d2]
theorem qK (call:Ua) (a b c u:Int) (H:List ba):Ei call Mi [.pv (.agg [i64 a,i64 b,i64 c]),.pv (i64 u)] H=some (.pv (i64 (eH a u)),H):=by
 have hc:=BK a u
 have l0:∀ H,ya H false 1 (.pv (.rp [i64 a,i64 b,i64 c] 0))=some (.pv (i64 a)):=fun H=>rfl
 have l1:∀ H,place H 0 (.pv (.rp [i64 a,i64 b,i64 c] 0))=some (.pv (.rp [i64 a,i64 b,i64 c] 0)):=fun H=>rfl
 simp -implicitDefEqProofs only[SX,sevalprocAttr,Mi,l0,l1,hc]
def r0 (r:List Int):Int:=r.getD 0 0
def r1 (r:List Int):Int:=r.getD 1 0
def r2 (r:List Int):Int:=r.getD 2 0
theorem cY {r:List Int} (h:r.length=3):r=[r0 r,r1 r,r2 r]:=by
 match r,h with
 | [a,b,c],_=>rfl
section
variable {RW:PV} {D:List (List Int)} (hR:ri 3 RW (D.map xH)) (hD:∀ r∈D,r.length=3)
include hR hD
theorem ny {i:Nat} (hi:i < D.length) (H:List ba):wa H 3 (.pv RW) (i:Int)=some (.pv (.rp [i64 (r0 D[i]),i64 (r1 D[i]),i64 (r2 D[i])] 0)):=by
 rw[hR.lit (i:=i) (by simpa using hi)]
 simp only[wa]
 have h3:=cY (hD _ (List.getElem_mem hi))
 rw[if_pos ⟨trivial,by unfold Ga;rw[List.length_map];omega⟩,Int.toNat_natCast,List.getElem?_map,List.getElem?_eq_getElem hi,Option.map_some,Option.map_some]
 congr 4
 show (xH D[i]).cells=_
 unfold xH
 generalize D[i]=r at *
 match r,h3 with
 |r,h3=>rw[h3];rfl
variable (hs:∀ i j (h:i < j) (hj:j < D.length),r0 D[i]≤r0 D[j]) (hlen:D.length≤32)
include hs hlen
theorem lX {H:List ba} (hH:xg H) (u:Int):∃ i:Nat,i≤D.length∧(∀ k (hk:k < D.length),k < i→r0 D[k] < u)∧(∀ k (hk:k < D.length),i≤k→u≤r0 D[k])∧
 Ei (Ea ee 7) fb [.pv RW,.pv (i64 u),.pk 41 []] H=some (.pv (.uc [i64 i,.bool (if h:i < D.length then decide (r0 D[i]=u) else false)]),H):=by
 have lR:=hR.len
 rw[List.length_map] at lR
 have c41:ee 41=some Mi:=rfl
 have r3:∀ H (x y z:PV),ya H true 3 (.pv (.rp [x,y,z] 0))=some (.pv (.agg [x,y,z])):=fun H x y z=>rfl
 have hcl:∀ n,AV.cut n deep (.pk 41 [])=some (.pk 41 []):=fun n=>rfl
 have hloop:=fun (E:Tr) (h0:E.get 0= .pv RW) (h1:E.get 1= .pv (i64 u)) (h2:E.get 2= .pk 41 []) (h8:E.get 8= .pv (i64 D.length)) (h9:E.get 9= .pv (i64 0)) (h10:E.get 10= .pv (i64 D.length))=>
  fO (call:=Ea ee 7) (b:=yb) (live:=[0,1,2,8,9,10]) (s:=⟨E,H⟩)
   (Q:=fun r=>∃ E' i,r=(.exit 0,⟨E',H⟩)∧Nd [0,1,2,8] E E'∧E'.get 9= .pv (i64 (i:Nat))∧i≤D.length∧(∀ k (hk:k < D.length),k < i→r0 D[k] < u)∧(∀ k (hk:k < D.length),i≤k→u≤r0 D[k]))
   (fun m t=>Nd [0,1,2,8] E t.env∧t.H=H∧∃ i j:Nat,t.env.get 9= .pv (i64 i)∧t.env.get 10= .pv (i64 j)∧i≤j∧j≤D.length∧m=j - i∧(∀ k (hk:k < D.length),k < i→r0 D[k] < u)∧(∀ k (hk:k < D.length),j≤k→u≤r0 D[k]))
   D.length (by unfold qa;omega)
   (Ig.all rfl (hH _ (Nat.le_refl _)) (Fit.cons h0 Ja (.cons h1 Ja (.cons h2 (hcl _) (.cons h8 Ja (.cons h9 Ja (.cons h10 Ja (.nil _ _))))))) fun E' hE=>⟨Nd.sub hE rfl,rfl,0,D.length,by rw[hE 9 (by simp),h9];rfl,by rw[hE 10 (by simp),h10],by omega,by omega,by omega,fun k _ h=>by omega,fun k hk h=>by omega⟩)
   (by
    rintro m ⟨E1,H1⟩ ⟨k1,k2,i,j,k9,k10,hij,hj,hm,ha,hb⟩
    simp only at k1 k2 k9 k10
    replace k2:=k2.symm
    subst k2
    by_cases hlt:i < j
    ·have e1:decide ((i:Int) < (j:Int))=true:=Fa (by omega)
     have g0:=(k1 0 (by simp)).trans h0
     have g1:=(k1 1 (by simp)).trans h1
     have g2:=(k1 2 (by simp)).trans h2
     obtain⟨h,hh⟩:∃ h,h=(i+j) / 2:=⟨_,rfl⟩
     have hhD:h < D.length:=by omega
     have a1:=ny hR hD hhD
     have hc:=qK (Ea ee 6) (r0 D[h]) (r1 D[h]) (r2 D[h]) u H
     have w1:IntKind.i64.wrap ((i:Int)+(j:Int))=(i:Int)+j:=Da (by omega)
     have w2:IntKind.u64.wrap ((i:Int)+(j:Int))=(i:Int)+j:=by
      unfold IntKind.wrap;simp[IntKind.signed,IntKind.bits];omega
     have w3:((i:Int)+(j:Int)).fdiv (2 ^ min 1 IntKind.u64.bits)=(h:Int):=by
      show ((i:Int)+(j:Int)).fdiv 2=_
      rw[Int.fdiv_eq_ediv_of_nonneg _ (by omega)];omega
     have w4:IntKind.i64.wrap (h:Int)=(h:Int):=Da (by omega)
     have w5:IntKind.i64.wrap ((h:Int)+1)=((h+1:Nat):Int):=Wk (by omega)
     have z0:((1:Int) < 0)=False:=by simp
     generalize hQ:RQ _ _ _ _=Q
     by_cases hcu:r0 D[h] < u
     ·have hcm:eH (r0 D[h]) u= -1:=by unfold eH;rw[if_pos hcu]
      have z1:decide ((-1:Int) < 0)=true:=rfl
      rw[hcm] at hc
      simp -implicitDefEqProofs only[SX,sevalprocAttr,yb,k9,k10,e1,g0,g1,g2,a1,r3,w1,w2,w3,w4,w5,z0,c41,hc,z1]
      subst hQ
      rw[Cl]
      generalize hEE:(Tr.set _ 9 _:Tr)=E2
      have kk:Nd [0,1,2,8] E E2:=by
       rw[← hEE]
       repeat refine Nd.set ?_ rfl
       exact k1
      have z9:E2.get 9= .pv (i64 (h+1:Nat)):=by rw[← hEE];simp[Tr.aa]
      have z10:E2.get 10= .pv (i64 j):=by rw[← hEE];simp[Tr.aa,k10]
      exact Ig.all rfl (hH _ (Nat.le_refl _)) (Fit.sub (.cons z9 Ja (.cons z10 Ja (Fit.ze (l:=[0,1,2,8]) (.cons h0 Ja (.cons h1 Ja (.cons h2 (hcl _) (.cons h8 Ja (.nil _ _))))) kk))) rfl) fun E' hE=>⟨j - (h+1),by omega,kk.trans (Nd.sub hE rfl),rfl,h+1,j,by rw[hE 9 (by simp),z9],by rw[hE 10 (by simp),z10],by omega,hj,rfl,fun k hk hkh=>by
       rcases Nat.lt_or_ge k h with h5 | h5
       ·exact Int.lt_of_le_of_lt (hs k h h5 hhD) hcu
       ·obtain rfl:k=h:=by omega
        exact hcu,hb⟩
     ·have z1:decide (eH (r0 D[h]) u < 0)=false:=Ka (by unfold eH;rw[if_neg hcu];split <;> omega)
      simp -implicitDefEqProofs only[SX,sevalprocAttr,yb,k9,k10,e1,g0,g1,g2,a1,r3,w1,w2,w3,w4,w5,z0,c41,hc,z1]
      subst hQ
      rw[Cl]
      generalize hEE:(Tr.set _ 10 _:Tr)=E2
      have kk:Nd [0,1,2,8] E E2:=by
       rw[← hEE]
       repeat refine Nd.set ?_ rfl
       exact k1
      have z9:E2.get 9= .pv (i64 i):=by rw[← hEE];simp[Tr.aa,k9]
      have z10:E2.get 10= .pv (i64 h):=by rw[← hEE];simp[Tr.aa]
      exact Ig.all rfl (hH _ (Nat.le_refl _)) (Fit.sub (.cons z9 Ja (.cons z10 Ja (Fit.ze (l:=[0,1,2,8]) (.cons h0 Ja (.cons h1 Ja (.cons h2 (hcl _) (.cons h8 Ja (.nil _ _))))) kk))) rfl) fun E' hE=>⟨h - i,by omega,kk.trans (Nd.sub hE rfl),rfl,i,h,by rw[hE 9 (by simp),z9],by rw[hE 10 (by simp),z10],by omega,by omega,rfl,ha,fun k hk hkh=>by
       rcases Nat.lt_or_ge h k with h5 | h5
       ·exact Int.le_trans (Int.not_lt.1 hcu) (hs h k h5 hk)
       ·obtain rfl:k=h:=by omega
        omega⟩
    ·obtain rfl:i=j:=by omega
     have e1:decide ((i:Int) < (i:Int))=false:=Ka (by omega)
     generalize hQ:RQ _ _ _ _=Q
     simp -implicitDefEqProofs only[SX,sevalprocAttr,yb,k9,k10,e1]
     subst hQ
     exact⟨_,i,rfl,by repeat refine Nd.set ?_ rfl
                      exact k1,by simp[Tr.aa,k9],hj,ha,hb⟩)
 have key:Ld (fun r=>∃ i:Nat,i≤D.length∧(∀ k (hk:k < D.length),k < i→r0 D[k] < u)∧(∀ k (hk:k < D.length),i≤k→u≤r0 D[k])∧r=(.pv (.uc [i64 i,.bool (if h:i < D.length then decide (r0 D[i]=u) else false)]),H)) (Ei (Ea ee 7) fb [.pv RW,.pv (i64 u),.pk 41 []] H):=by
  generalize hQ:(fun r:AV×List ba=>∃ i:Nat,_)=Q
  simp -implicitDefEqProofs only[SX,sevalprocAttr,fb,lR]
  generalize hEE:(Tr.set _ 10 _:Tr)=E
  refine za (hloop E (by rw[← hEE];simp[Tr.aa]) (by rw[← hEE];simp[Tr.aa]) (by rw[← hEE];simp[Tr.aa]) (by rw[← hEE];simp[Tr.aa]) (by rw[← hEE];simp[Tr.aa]) (by rw[← hEE];simp[Tr.aa])) ?_
  have h0:E.get 0= .pv RW:=by rw[← hEE];simp[Tr.aa]
  have h1:E.get 1= .pv (i64 u):=by rw[← hEE];simp[Tr.aa]
  have h2:E.get 2= .pk 41 []:=by rw[← hEE];simp[Tr.aa]
  have h8:E.get 8= .pv (i64 D.length):=by rw[← hEE];simp[Tr.aa]
  rintro r ⟨_,E',i,rfl,k1,k9,hi,ha,hb⟩
  have g0:=(k1 0 (by simp)).trans h0
  have g1:=(k1 1 (by simp)).trans h1
  have g2:=(k1 2 (by simp)).trans h2
  have g8:=(k1 8 (by simp)).trans h8
  by_cases hlt:i < D.length
  ·have e1:decide ((i:Int) < (D.length:Int))=true:=Fa (by omega)
   have a1:=ny hR hD hlt
   have hc:=qK (Ea ee 6) (r0 D[i]) (r1 D[i]) (r2 D[i]) u H
   have hge:=hb i hlt (Nat.le_refl _)
   have z:(eH (r0 D[i]) u==0)=decide (r0 D[i]=u):=by
    unfold eH
    rw[if_neg (by omega)]
    by_cases h5:r0 D[i] > u
    ·rw[if_pos h5,Ka (by omega)];rfl
    ·rw[if_neg h5,Fa (by omega)];rfl
   simp -implicitDefEqProofs only[SX,sevalprocAttr,k9,g0,g1,g2,g8,e1,a1,r3,c41,hc,z]
   subst hQ
   exact⟨i,hi,ha,hb,by rw[dif_pos hlt]⟩
  ·have e1:decide ((i:Int) < (D.length:Int))=false:=Ka (by omega)
   simp -implicitDefEqProofs only[SX,sevalprocAttr,k9,g0,g1,g2,g8,e1]
   subst hQ
   exact⟨i,hi,ha,hb,by rw[dif_neg hlt]⟩
 obtain⟨r,h1,i,h2,h3,h4,rfl⟩:=Gc key
 exact⟨i,h2,h3,h4,h1⟩
end
theorem wP {ss:List Rb} {r:List Int} (h:r∈Si ss):∃ j,∃ hj:j < ss.length,r=Qu ss[j] j:=by
 have:=(Pp ss).mem_iff.1 h
 unfold ni at this
 obtain⟨j,hj,rfl⟩:=List.mem_map.1 this
 have hj:=List.mem_range.1 hj
 exact⟨j,hj,by rw[List.getD_eq_getElem?_getD,List.getElem?_eq_getElem hj];rfl⟩
theorem uQ {ss:List Rb} {j:Nat} (hj:j < ss.length):Qu ss[j] j∈Si ss:=by
 refine (Pp ss).mem_iff.2 ?_
 unfold ni
 refine List.mem_map.2 ⟨j,List.mem_range.2 hj,?_⟩
 rw[List.getD_eq_getElem?_getD,List.getElem?_eq_getElem hj];rfl
theorem AG (ss:List Rb) (i j:Nat) (h:i < j) (hj:j < (Si ss).length):r0 (Si ss)[i]≤r0 (Si ss)[j]:=by
 obtain⟨h1,h2,h3⟩:=Ey 3 0 (ni ss ss.length).toArray
 have hj':j < (ni ss ss.length).toArray.size:=by rw[← h1];simpa[Si] using hj
 have h4:=h3 i j h hj'
 have key:∀ k (hk:k < (Si ss).length),dv 3 0 (Rn 3 0 (ni ss ss.length).toArray)[k]! =r0 (Si ss)[k]:=by
  intro k hk
  have hk':k < (Rn 3 0 (ni ss ss.length).toArray).size:=by simpa[Si] using hk
  rw[getElem!_pos _ k hk']
  have e:(Rn 3 0 (ni ss ss.length).toArray)[k]=(Si ss)[k]:=by simp[Si]
  have h3:=sA (List.getElem_mem hk)
  rw[e]
  generalize (Si ss)[k]=r at *
  unfold dv r0
  rw[if_pos h3]
 rw[key i (by omega),key j hj] at h4
 omega
theorem CI (ss:List Rb):(Si ss).Nodup:=by
 refine (Pp ss).nodup_iff.2 ?_
 unfold ni List.Nodup
 rw[List.pairwise_map]
 refine List.Pairwise.imp ?_ (List.nodup_range (n:=ss.length))
 intro i j h e
 unfold Qu at e
 injection e with _ e
 injection e with _ e
 injection e with e _
 omega
def has (s:Rb) (u:Int):Prop:=s.first≤u∧u < s.first+Qa s.parts
theorem zH {ss:List Rb} (Ba:qc ss) {i j:Nat} (hi:i < ss.length) (hj:j < ss.length) {u:Int} (h1:has ss[i] u) (h2:has ss[j] u):i=j:=by
 have hap:=Ba.apart
 rw[List.pairwise_iff_getElem] at hap
 have e1:=(Ba.Av _ (List.getElem_mem hi)).qh
 have e2:=(Ba.Av _ (List.getElem_mem hj)).qh
 unfold has at h1 h2
 rcases Nat.lt_trichotomy i j with h | h | h
 ·exact absurd (hap i j hi hj h u) (fun hn=>hn ⟨by omega,by omega⟩)
 ·exact h
 ·exact absurd (hap j i hj hi h u) (fun hn=>hn ⟨by omega,by omega⟩)
section
variable {T:PV} {ss:List Rb} {l:List (List xe)} (hT:Sn T ss l) (Ba:qc ss)
include hT Ba
theorem vT (u:Int):(∃ j,∃ hj:j < ss.length,has ss[j] u∧me [T,i64 u]=some (.uc [.agg [i64 ss[j].first,i64 (ss[j].first+Qa ss[j].parts - 1),i64 j],.bool true]))∨
 ((∀ s∈ss,¬has s u)∧me [T,i64 u]=some (.uc [.agg [i64 0,i64 0,i64 0],.bool false])):=by
 obtain⟨S',NX,DG,RW,rfl,_,_,_,hRW⟩:=hT.ex
 have hrp:=ay (a:=S') (b:=zj l) (c:=NX) (d:=DG) (e:=RW) (f:=i64 (zi ss))
 have l4:=fun H=>(hrp H).2.2.1
 generalize ([S',zj l,NX,DG,RW,i64 (zi ss)]:List PV)=R at *
 obtain⟨D,hRW,hDr,hDm,hDh,hDl,hDs,hnd⟩:∃ D:List (List Int),ri 3 RW (D.map xH)∧(∀ r∈D,r.length=3)∧(∀ r∈D,∃ j,∃ hj:j < ss.length,r=Qu ss[j] j)∧(∀ j (hj:j < ss.length),Qu ss[j] j∈D)∧D.length=ss.length∧(∀ i j (h:i < j) (hj:j < D.length),r0 D[i]≤r0 D[j])∧D.Nodup:=
  ⟨Si ss,hRW,fun r hr=>sA hr,fun r hr=>wP hr,fun j hj=>uQ hj,UF ss,AG ss,CI ss⟩
 have h32:=Ba.len
 have hg:xg [ba.box [.pv (i64 0),.pv (i64 0),.pv (i64 0)]]:=fun n _ o ho=>by
  rw[List.mem_singleton] at ho;subst ho;exact Mp n [i64 0,i64 0,i64 0]
 obtain⟨i,hi,ha,hb,hrun⟩:=lX hRW hDr hDs (by omega) hg u
 have c40:ee 40=some fb:=rfl
 have b0:∀ a b c d e f,Ma [ba.box [.pv a,.pv b,.pv c]] 3 (.ptr 0 0) (.pv (.agg [.int .i64 d,.int .i64 e,.int .i64 f]))=some [.box [.pv (i64 d),.pv (i64 e),.pv (i64 f)]]:=fun a b c d e f=>rfl
 have ld:∀ a b c,ya [ba.box [.pv a,.pv b,.pv c]] true 3 (.ptr 0 0)=some (.pv (.agg [a,b,c])):=fun a b c=>rfl
 have r3:∀ H (x y z:PV),ya H true 3 (.pv (.rp [x,y,z] 0))=some (.pv (.agg [x,y,z])):=fun H x y z=>rfl
 have r31:∀ H (x y z:PV),ya H false 1 (.pv (.rp [x,y,z] 1))=some (.pv y):=fun H x y z=>rfl
 have fin:∀ k (hk:k < D.length),(∀ m (hm:m < D.length),k < m→u < r0 D[m])→r0 D[k]≤u→
  ((u≤r1 D[k]→∃ j,∃ hj:j < ss.length,has ss[j] u∧PV.agg [i64 (r0 D[k]),i64 (r1 D[k]),i64 (r2 D[k])]= .agg [i64 ss[j].first,i64 (ss[j].first+Qa ss[j].parts - 1),i64 j])∧(¬ u≤r1 D[k]→∀ s∈ss,¬has s u)):=by
  intro k hk hgt hle
  obtain⟨j',hj',hr'⟩:=hDm _ (List.getElem_mem hk)
  constructor
  ·intro h1
   rw[hr'] at h1 hle ⊢
   refine⟨j',hj',⟨hle,?_⟩,rfl⟩
   have:u≤ss[j'].first+Qa ss[j'].parts - 1:=h1
   omega
  ·intro h1 s hs hh
   obtain⟨j,hj,rfl⟩:=List.getElem_of_mem hs
   obtain⟨m,hm,hmr⟩:=List.getElem_of_mem (hDh j hj)
   have hh':=hh
   unfold has at hh'
   have hp:=sg (Ba.Av _ (List.getElem_mem hj')).parts
   rcases Nat.lt_or_ge k m with h | h
   ·have:=hgt m hm h
    rw[hmr] at this
    have:u < ss[j].first:=this
    omega
   ·have h3:r0 D[m]≤r0 D[k]:=by
     rcases Nat.lt_or_ge m k with h5 | h5
     ·exact hDs m k h5 hk
     ·have:m=k:=by omega
      subst this;exact Int.le_refl _
    rw[hmr] at h3
    rw[hr'] at h3 hle h1
    have h3:ss[j].first≤ss[j'].first:=h3
    have hle:ss[j'].first≤u:=hle
    have e:j=j':=zH Ba hj hj' (u:=ss[j'].first) ⟨h3,by omega⟩ ⟨Int.le_refl _,by omega⟩
    subst e
    have:¬u≤ss[j].first+Qa ss[j].parts - 1:=h1
    omega
 have step:∀ (k:Nat) (hk:k < D.length),(∀ q (hq:q < D.length),k < q→u < r0 D[q])→r0 D[k]≤u→∀ R0:PV,
  (u≤r1 D[k]→R0= .uc [.agg [i64 (r0 D[k]),i64 (r1 D[k]),i64 (r2 D[k])],.bool true])→(¬ u≤r1 D[k]→R0= .uc [.agg [i64 0,i64 0,i64 0],.bool false])→
  (∃ j,∃ hj:j < ss.length,has ss[j] u∧R0= .uc [.agg [i64 ss[j].first,i64 (ss[j].first+Qa ss[j].parts - 1),i64 j],.bool true])∨((∀ s∈ss,¬has s u)∧R0= .uc [.agg [i64 0,i64 0,i64 0],.bool false]):=by
  intro k hk h1 h2 R0 h3 h4
  obtain⟨f1,f2⟩:=fin k hk h1 h2
  by_cases hc:u≤r1 D[k]
  ·obtain⟨j,hj,g1,g2⟩:=f1 hc
   exact .inl ⟨j,hj,g1,by rw[h3 hc,g2]⟩
  ·exact .inr ⟨f2 hc,h4 hc⟩
 suffices key:∃ R0,me [.rp R 0,i64 u]=some R0∧((∃ j,∃ hj:j < ss.length,has ss[j] u∧R0= .uc [.agg [i64 ss[j].first,i64 (ss[j].first+Qa ss[j].parts - 1),i64 j],.bool true])∨((∀ s∈ss,¬has s u)∧R0= .uc [.agg [i64 0,i64 0,i64 0],.bool false])) by
  obtain⟨R0,k1,⟨j,hj,k2,rfl⟩ | ⟨k2,rfl⟩⟩:=key
  ·exact .inl ⟨j,hj,k2,k1⟩
  ·exact .inr ⟨k2,k1⟩
 by_cases his:∃ h:i < D.length,r0 D[i]=u
 ·obtain⟨h,he⟩:=his
  rw[dif_pos h,Fa he] at hrun
  have hgt:∀ q (hq:q < D.length),i < q→u < r0 D[q]:=by
   intro q hq hiq
   have h3:=hDs i q hiq hq
   rcases Int.lt_or_le u (r0 D[q]) with h5 | h5
   ·exact h5
   ·exfalso
    obtain⟨j,hj,hr⟩:=hDm _ (List.getElem_mem h)
    obtain⟨j',hj',hr'⟩:=hDm _ (List.getElem_mem hq)
    have hp:=sg (Ba.Av _ (List.getElem_mem hj)).parts
    have hp':=sg (Ba.Av _ (List.getElem_mem hj')).parts
    have e1:ss[j].first=u:=by rw[hr] at he;exact he
    have e2:ss[j'].first≤u:=by rw[hr'] at h5;exact h5
    have e3:u≤ss[j'].first:=by rw[hr',he] at h3;exact h3
    have:j=j':=zH Ba hj hj' (u:=u) ⟨by omega,by omega⟩ ⟨by omega,by omega⟩
    subst this
    have:=(List.getElem_inj hnd).1 (hr.trans hr'.symm)
    omega
  have a1:=ny hRW hDr h
  have z1:decide ((i:Int) < 0)=false:=Ka (by omega)
  refine⟨_,?_,step i h hgt (by omega) (if u≤r1 D[i] then .uc [.agg [i64 (r0 D[i]),i64 (r1 D[i]),i64 (r2 D[i])],.bool true] else .uc [.agg [i64 0,i64 0,i64 0],.bool false]) (fun h=>by rw[if_pos h]) (fun h=>by rw[if_neg h])⟩
  by_cases hc:u≤r1 D[i]
  ·have z2:decide (u > r1 D[i])=false:=Ka (by omega)
   rw[if_pos hc]
   simp -implicitDefEqProofs only[me,SX,sevalprocAttr,Vg,su,TG,l4,c40,hrun,z1,a1,z2,r31,r3,b0,ld]
  ·have z2:decide (u > r1 D[i])=true:=Fa (by omega)
   rw[if_neg hc]
   simp -implicitDefEqProofs only[me,SX,sevalprocAttr,Vg,su,TG,l4,c40,hrun,z1,a1,z2,r31,r3,b0,ld]
 ·have hf:(if h:i < D.length then decide (r0 D[i]=u) else false)=false:=by
   by_cases h:i < D.length
   ·rw[dif_pos h];exact Ka fun e=>his ⟨h,e⟩
   ·rw[dif_neg h]
  rw[hf] at hrun
  have w1:IntKind.i64.wrap ((i:Int) - 1)=(i:Int) - 1:=Da (by omega)
  cases i with
  |zero=>
   have z1:decide ((-1:Int) < 0)=true:=rfl
   have w1:IntKind.i64.wrap (-1)= -1:=Da (by decide)
   have hrun:Ei (Ea ee 7) fb [.pv RW,.pv (i64 u),.pk 41 []] [.box [.pv (i64 0),.pv (i64 0),.pv (i64 0)]]=some (.pv (.uc [i64 0,.bool false]),[.box [.pv (i64 0),.pv (i64 0),.pv (i64 0)]]):=hrun
   refine⟨.uc [.agg [i64 0,i64 0,i64 0],.bool false],?_,.inr ⟨fun s hs hh=> ?_,rfl⟩⟩
   ·simp -implicitDefEqProofs only[me,SX,sevalprocAttr,Vg,su,TG,l4,c40,hrun,w1,z1,b0,ld]
   ·obtain⟨j,hj,rfl⟩:=List.getElem_of_mem hs
    obtain⟨m,hm,hmr⟩:=List.getElem_of_mem (hDh j hj)
    have h6:=hb m hm (Nat.zero_le _)
    have hne:r0 D[m]≠u:=by
     intro e
     have h7:=hb 0 (by omega) (Nat.le_refl _)
     have h8:r0 D[0]≤r0 D[m]:=by
      rcases Nat.eq_zero_or_pos m with h9 | h9
      ·subst h9;exact Int.le_refl _
      ·exact hDs 0 m h9 hm
     exact his ⟨by omega,by omega⟩
    rw[hmr] at h6 hne
    have h6:u≤ss[j].first:=h6
    have hne:ss[j].first≠u:=hne
    unfold has at hh;omega
  |succ i=>
   have h:i < D.length:=by omega
   have w2:((i+1:Nat):Int) - 1=(i:Int):=by omega
   rw[w2] at w1
   have z1:decide ((i:Int) < 0)=false:=Ka (by omega)
   have a1:=ny hRW hDr h
   have hlt:=ha i h (by omega)
   have hgt:∀ q (hq:q < D.length),i < q→u < r0 D[q]:=by
    intro q hq hiq
    have h6:=hb q hq (by omega)
    rcases Int.lt_or_le u (r0 D[q]) with h5 | h5
    ·exact h5
    ·exfalso
     have h7:=hb (i+1) (by omega) (Nat.le_refl _)
     have h8:r0 D[i+1]≤r0 D[q]:=by
      rcases Nat.lt_or_ge (i+1) q with h9 | h9
      ·exact hDs (i+1) q h9 hq
      ·have:i+1=q:=by omega
       subst this;exact Int.le_refl _
     exact his ⟨by omega,by omega⟩
   refine⟨_,?_,step i h hgt (by omega) (if u≤r1 D[i] then .uc [.agg [i64 (r0 D[i]),i64 (r1 D[i]),i64 (r2 D[i])],.bool true] else .uc [.agg [i64 0,i64 0,i64 0],.bool false]) (fun h=>by rw[if_pos h]) (fun h=>by rw[if_neg h])⟩
   by_cases hc:u≤r1 D[i]
   ·have z2:decide (u > r1 D[i])=false:=Ka (by omega)
    rw[if_pos hc]
    simp -implicitDefEqProofs only[me,SX,sevalprocAttr,Vg,su,TG,l4,c40,hrun,w1,w2,z1,a1,z2,r31,r3,b0,ld]
   ·have z2:decide (u > r1 D[i])=true:=Fa (by omega)
    rw[if_neg hc]
    simp -implicitDefEqProofs only[me,SX,sevalprocAttr,Vg,su,TG,l4,c40,hrun,w1,w2,z1,a1,z2,r31,r3,b0,ld]
end
end Go.AM.B1
namespace Go.AM.B1
open Go.AM Go.AM.So
def lU (u:Int):List Rb→Option (List Int)
 | []=>none
 |s::r=>if s.first≤u∧u < s.first+Qa s.parts then some (bh s.parts (u - s.first)) else lU u r
theorem XI {u:Int}:∀ {ss:List Rb} {b:List Int},(∀ s∈ss,Zd s)→lU u ss=some b→∃ s∈ss,s.first≤u∧u < s.first+Qa s.parts∧b=bh s.parts (u - s.first)∧Sl s b=some (u - s.first)∧(∀ x∈b,0≤x∧x≤255)∧b≠[]
 |s::r,b,h,he=>by
  rw[lU] at he
  split at he
  ·next hc=>
   injection he with he;subst he
   have hs:=h s (by simp)
   obtain⟨h1,h2,h3⟩:=jv s.parts (u - s.first) 0 hs.parts (by omega) (by omega)
   refine⟨s,by simp,hc.1,hc.2,rfl,?_,h3,?_⟩
   ·unfold Sl;rw[if_pos h2,h1,Int.zero_add]
   ·intro h4;rw[h4] at h2;have:=hs.lo;simp at h2;omega
  ·obtain⟨s',h1,h2⟩:=XI (fun x hx=>h x (by simp[hx])) he
   exact⟨s',by simp[h1],h2⟩
end Go.AM.B1
namespace Go.AM.B1
open Go.AM Go.AM.So
theorem FN {u:Int}:∀ {ss:List Rb},(∀ s∈ss,¬has s u)→lU u ss=none
 | [],_=>rfl
 |s::ss,h=>by
  have h1:=h s (by simp)
  unfold has at h1
  rw[lU,if_neg h1]
  exact FN fun x hx=>h x (by simp[hx])
theorem kX {u:Int} {ss:List Rb} (Ba:qc ss) {j:Nat} (hj:j < ss.length) (h:has ss[j] u):lU u ss=some (bh ss[j].parts (u - ss[j].first)):=by
 have key:∀ (l:List Rb) (j:Nat) (hj:j < l.length),(∀ i (hi:i < l.length),has l[i] u→i=j)→has l[j] u→lU u l=some (bh l[j].parts (u - l[j].first)):=by
  intro l
  induction l with
  |nil=>intro j hj;simp at hj
  |cons s l ih=>
   intro j hj hone hh
   rw[lU]
   cases j with
   |zero=>rw[if_pos (show s.first≤u∧u < s.first+Qa s.parts from hh)];rfl
   |succ j=>
    rw[if_neg (fun hc:s.first≤u∧u < s.first+Qa s.parts=>by have:=hone 0 (by simp) hc;omega)]
    exact ih j (by simpa using hj) (fun i hi hx=>by have:=hone (i+1) (by simpa using hi) hx;omega) hh
 exact key ss j hj (fun i hi hx=>zH Ba hi hj hx h) h
section
variable {T:PV} {ss:List Rb} {l:List (List xe)} (hT:Sn T ss l) (Ba:qc ss)
include hT Ba
theorem nS (u:Int):wi [T,i64 u]=some (match lU u ss with | some b=> .uc [.lit 1 (b.map u8),.bool true] | none=> .uc [.ma,.bool false]):=by
 have hrow:=vT hT Ba u
 obtain⟨S',NX,DG,RW,rfl,_,_,hDG,_⟩:=hT.ex
 have hrp:=ay (a:=S') (b:=zj l) (c:=NX) (d:=DG) (e:=RW) (f:=i64 (zi ss))
 have l3:=fun H=>(hrp H).2.1
 generalize ([S',zj l,NX,DG,RW,i64 (zi ss)]:List PV)=R at *
 have st:∀ a b c,Ma [ba.box [.pv (i64 0),.pv (i64 0),.pv (i64 0)]] 3 (.ptr 0 0) (.pv (.agg [i64 a,i64 b,i64 c]))=some [.box [.pv (i64 a),.pv (i64 b),.pv (i64 c)]]:=fun a b c=>rfl
 rcases hrow with⟨j,hj,hh,hr⟩ | ⟨hn,hr⟩
 ·rw[kX Ba hj hh]
  have hs:=Ba.Av _ (List.getElem_mem hj)
  have hh':=hh
  unfold has at hh'
  have hun:=nC hs (k:=u - ss[j].first) (by omega) (by omega)
  have hf0:=hs.f0
  have hl:=hs.qh
  have hl2:=hs.last
  have a1:∀ H,wa H 1 (.pv DG) (j:Int)=some (.pv (.rp [Ii ss[j].parts] 0)):=fun H=>by
   rw[hDG.lit (i:=j) (by simpa using hj)]
   simp only[wa]
   rw[if_pos ⟨trivial,by unfold Ga;rw[List.length_map];omega⟩,Int.toNat_natCast,List.getElem?_map,List.getElem?_eq_getElem hj];rfl
  generalize ss[j]=s at *
  have w1:IntKind.i64.wrap (u - s.first)=u - s.first:=Da (by omega)
  have p0:∀ a b c d,place [ba.box [.pv a,.pv b,.pv c]] d (.ptr 0 0)=some (.ptr 0 (0+d)):=fun a b c d=>rfl
  have q2:∀ a b c,ya [ba.box [.pv a,.pv b,.pv c]] false 1 (.ptr 0 2)=some (.pv c):=fun a b c=>rfl
  have q0:∀ a b c,ya [ba.box [.pv a,.pv b,.pv c]] false 1 (.ptr 0 0)=some (.pv a):=fun a b c=>rfl
  simp -implicitDefEqProofs only[wi,SX,sevalprocAttr,zk,hr,st,TG,l3,p0,q2,q0,a1,Va,w1,hun]
 ·rw[FN hn]
  simp -implicitDefEqProofs only[wi,SX,sevalprocAttr,zk,hr,st]
def DE (bs:List Int):List Rb→Option Int
 | []=>none
 |s::ss=>match Sl s bs with
  |some k=>some (s.first+k)
  |none=>DE bs ss
omit hT Ba in
theorem tP {bs:List Int} {ss:List Rb} {i:Nat} (hi:i < ss.length):DE bs (ss.drop i)=match Sl ss[i] bs with | some k=>some (ss[i].first+k) | none=>DE bs (ss.drop (i+1)):=by
 rw[List.drop_eq_getElem_cons hi,DE]
theorem TR {B:PV} {bs:List Int} (hB:Yi B bs):yi [T,B]=some (match DE bs ss with | some v=> .uc [i64 v,.bool true] | none=> .uc [i64 0,.bool false]):=by
 obtain⟨S',NX,DG,RW,rfl,hS',_,hDG,_⟩:=hT.ex
 have hrp:=ay (a:=S') (b:=zj l) (c:=NX) (d:=DG) (e:=RW) (f:=i64 (zi ss))
 have l3:=fun H=>(hrp H).2.1
 have l0:=fun H=>(hrp H).2.2.2.2.1
 generalize ([S',zj l,NX,DG,RW,i64 (zi ss)]:List PV)=R at *
 have lD:=hDG.len
 rw[List.length_map] at lD
 have h32:=Ba.len
 have hB1:=hB.one
 obtain⟨D,hD⟩:∃ D,D=DE bs ss:=⟨_,rfl⟩
 rw[← hD]
 have hloop:=fun (E:Tr) (h0:E.get 0= .pv (.rp R 0)) (h1:E.get 1= .pv B) (h15:E.get 15= .pv DG) (h16:E.get 16= .pv (i64 ss.length)) (h17:E.get 17= .pv (i64 0))=>
  pn (call:=Ea (fun _=>none) 8) (b:=zf) (live:=[0,1,15,16,17]) (s:=⟨E,[]⟩) (Q:=fun r=>(∃ E',r=(.exit 0,⟨E',[]⟩)∧D=none)∨∃ E' v,r=(.ret,⟨E',[]⟩)∧E'.get 4= .pv (i64 v)∧E'.get 5= .pv (.bool true)∧D=some v)
   (fun i t=>Nd [0,1,15,16] E t.env∧t.env.get 17= .pv (i64 i)∧t.H=[]∧D=DE bs (ss.drop i)) ss.length (by unfold qa;omega)
   (Ig.all rfl (by simp) (Fit.cons h0 Ja (.cons h1 Ja (.cons h15 Ja (.cons h16 Ja (.cons h17 Ja (.nil _ _)))))) fun E' hE=>⟨Nd.sub hE rfl,by rw[hE 17 (by simp),h17];rfl,rfl,hD⟩)
   (by
    rintro i ⟨E1,H1⟩ hi ⟨k1,k2,k3,k5⟩
    simp only at k1 k2 k3
    subst k3
    have g0:=(k1 0 (by simp)).trans h0
    have g1:=(k1 1 (by simp)).trans h1
    have g15:=(k1 15 (by simp)).trans h15
    have g16:=(k1 16 (by simp)).trans h16
    have hs:=Ba.Av _ (List.getElem_mem hi)
    have hrk:=IH hB hs
    rw[tP hi] at k5
    have hdc:(Ii ss[i].parts).cells=[Ii ss[i].parts]:=rfl
    have a1:∀ H,wa H 1 (.pv DG) (i:Int)=some (.pv (.rp [Ii ss[i].parts] 0)):=fun H=>by
     rw[hDG.lit (i:=i) (by simpa using hi)]
     simp only[wa]
     rw[if_pos ⟨trivial,by unfold Ga;rw[List.length_map];omega⟩,Int.toNat_natCast,List.getElem?_map,List.getElem?_eq_getElem hi];rfl
    have a2:∀ H,wa H 2 (.pv S') (i:Int)=some (.pv (.rp [.lit 1 (ss[i].parts.map oe),i64 ss[i].first] 0)):=fun H=>by
     rw[hS'.lit (i:=i) (by simpa using hi)]
     simp only[wa]
     rw[if_pos ⟨trivial,by unfold Ga;rw[List.length_map];omega⟩,Int.toNat_natCast,List.getElem?_map,List.getElem?_eq_getElem hi];rfl
    have hrb:=fun k hk=>eJ (b:=bs) (k:=k) hs hk
    generalize ss[i]=s at *
    have hf0:=hs.f0
    have e1:decide ((i:Int) < (ss.length:Int))=true:=Fa (by omega)
    have t1:IntKind.i64.wrap ((i:Int)+1)=((i+1:Nat):Int):=Wk (by omega)
    generalize hQ:RQ _ _ _ _=Q
    cases hrs:Sl s bs with
    |some k=>
     rw[hrs] at k5
     have hr1:=hrk.1 k hrs
     have hb:=hrb k hrs
     have w1:IntKind.i64.wrap (s.first+k)=s.first+k:=Da (by omega)
     simp -implicitDefEqProofs only[SX,sevalprocAttr,zf,g0,g1,g15,g16,k2,e1,a1,a2,Va,TG,l0,Wi,hr1,w1]
     subst hQ
     exact .inr ⟨_,_,rfl,by simp[Tr.aa],by simp[Tr.aa],k5⟩
    |none=>
     rw[hrs] at k5
     have hr1:=hrk.2 hrs
     simp -implicitDefEqProofs only[SX,sevalprocAttr,zf,g0,g1,g15,g16,k2,e1,a1,Va,hr1,t1]
     subst hQ
     rw[Cl]
     generalize hEE:(Tr.set _ 17 _:Tr)=E2
     have kk:Nd [0,1,15,16] E E2:=by
      rw[← hEE]
      repeat refine Nd.set ?_ rfl
      exact k1
     have z17:E2.get 17= .pv (i64 (i+1:Nat)):=by rw[← hEE];simp[Tr.aa]
     exact Ig.all rfl (by simp) (Fit.sub (.cons z17 Ja (Fit.ze (l:=[0,1,15,16]) (.cons h0 Ja (.cons h1 Ja (.cons h15 Ja (.cons h16 Ja (.nil _ _))))) kk)) rfl) fun E' hE=>⟨kk.trans (Nd.sub hE rfl),by rw[hE 17 (by simp),z17],rfl,k5⟩)
   (by
    rintro⟨E1,H1⟩ ⟨k1,k2,k3,k5⟩
    simp only at k1 k2 k3
    subst k3
    have g16:=(k1 16 (by simp)).trans h16
    rw[List.drop_length] at k5
    have e1:decide ((ss.length:Int) < (ss.length:Int))=false:=Ka (by omega)
    generalize hQ:(fun r:Ex×St=>r.1.stop=true∧_)=Q
    simp -implicitDefEqProofs only[SX,sevalprocAttr,zf,g16,k2,e1]
    subst hQ
    exact⟨rfl,.inl ⟨_,rfl,k5⟩⟩)
 refine bl ?_
 generalize hQ:(fun x:PV=>x=_)=Q
 simp -implicitDefEqProofs only[yi,SX,sevalprocAttr,Ik,su,TG,l3,lD]
 generalize hEE:(Tr.set _ 17 _:Tr)=E
 refine za (hloop E (by rw[← hEE];simp[Tr.aa]) (by rw[← hEE];simp[Tr.aa]) (by rw[← hEE];simp[Tr.aa]) (by rw[← hEE];simp[Tr.aa]) (by rw[← hEE];simp[Tr.aa])) ?_
 rintro r ⟨_,⟨E',rfl,z1⟩ | ⟨E',v,rfl,z4,z5,z6⟩⟩
 ·simp -implicitDefEqProofs only[SX,sevalprocAttr]
  subst hQ
  rw[z1]
 ·simp -implicitDefEqProofs only[SX,sevalprocAttr,z4,z5]
  subst hQ;rw[z6]
end
end Go.AM.B1
