/- What functions of the program compute. -/
import Derived.Test.YtdglpnpkgngcdaaGreatX11
import Derived.Test.YtdglpnpkgngcdaaGreatX3
import Derived.Test.YtdglpnpkgngcdaaGreatX10
set_option linter.unusedVariables false
set_option linter.unusedSimpArgs false
namespace Go.AM.B1
open Go.AM Go.AM.So
theorem xE (l:List Int) (n:Nat):(Bf l).all (AV.Te n deep)=true:=by
 rw[List.all_eq_true];intro x hx
 obtain⟨y,_,rfl⟩:=List.mem_map.1 hx
 rfl
theorem wS {V S':PV} {y:Bool} {a b:Int} (nl:Bool) (ds:List PV) (D:List (List Int)) (fl:Nat) (nr:Bool) (m:Int):
 cf (Ww (.box [.pv V]) (.box [.pv (.bool y),.pv (i64 a),.pv (i64 b)]) (.tok 256 0 true) (.pv S') (.pv V) (.uq 3 true 256 []) nl ds D fl nr m):=by
 intro n hn o ho
 have hn:6≤n:=hn
 simp only[Ww,List.mem_cons,List.not_mem_nil,or_false] at ho
 rcases ho with rfl | rfl | rfl | rfl | rfl | rfl
 ·exact yj n [V]
 ·exact yj n [.bool y,i64 a,i64 b]
 ·simp only[oa,Pa,Ha,Qj (show 3 < n by omega),Qj (show 4 < n by omega),oN (show 5 < n by omega),Option.bind_some,Option.map_some]
 ·rfl
 ·rfl
 ·simp only[oa,xE,if_true]
theorem SS {V S':PV} {y:Bool} {a b m:Int} {nl:Bool} {ds:List PV} {D:List (List Int)} {fl k:Nat} {nr:Bool} (nx:Bool) (es:List PV):
 cf (qv (.box [.pv V]) (.box [.pv (.bool y),.pv (i64 a),.pv (i64 b)]) (.tok 1 k nl) (.seq 3 true (Bf D.flatten) fl nr) (.pv S') (.pv V) (.uq 4 nl 1 ds) (.own 5 k) (.pv (i64 m)) nx es):=by
 intro n hn o ho
 have hn:6≤n:=hn
 simp only[qv,List.mem_cons,List.not_mem_nil,or_false] at ho
 rcases ho with rfl | rfl | rfl | rfl | rfl | rfl
 ·exact yj n [V]
 ·exact yj n [.bool y,i64 a,i64 b]
 ·simp only[oa,Pa,Ha,Qj (show 3 < n by omega),Qj (show 4 < n by omega),oN (show 5 < n by omega),Option.bind_some,Option.map_some]
 ·rfl
 ·rfl
 ·simp only[oa,xE,if_true]
theorem CS {V S':PV} {o0 o1:ba} {m:Int} {nl nr nx:Bool} {ds es:List PV} {D:List (List Int)} {fl k:Nat} (hk:D.length=k) (hD:∀ r∈D,r.length=3) (h1:nl=true→ds=[]) (h2:nr=true→D=[]) (h3:nx=true→es=[]):
 ∃ NX DG RW,Vb (qv o0 o1 (.tok 1 k nl) (.seq 3 true (Bf D.flatten) fl nr) (.pv S') (.pv V) (.uq 4 nl 1 ds) (.own 5 k) (.pv (i64 m)) nx es) 5 (.ptr 2 0)=some (.rp [S',V,NX,DG,RW,i64 m] 0)∧
  Th 256 NX es∧Th 1 DG ds∧Th 3 RW (D.map dI):=by
 refine⟨if nx then .fa else .lit 256 es,if nl then .fa else .lit 1 ds,if nr then .fa else .lit 3 (D.map dI),?_,?_,?_,?_⟩
 ·have hc:k * 3=(Bf D.flatten).length∧(true||(3:Nat)==1)=true:=⟨by rw[List.length_map,Hw hD,hk],rfl⟩
  have hm:Pa (Vb (qv o0 o1 (.tok 1 k nl) (.seq 3 true (Bf D.flatten) fl nr) (.pv S') (.pv V) (.uq 4 nl 1 ds) (.own 5 k) (.pv (i64 m)) nx es) 3) (Bf D.flatten)=some (D.flatten.map i64):=by
   generalize qv o0 o1 (.tok 1 k nl) (.seq 3 true (Bf D.flatten) fl nr) (.pv S') (.pv V) (.uq 4 nl 1 ds) (.own 5 k) (.pv (i64 m)) nx es=H
   generalize D.flatten=F
   induction F with
   |nil=>rfl
   |cons x F ih=>
    show Pa (Vb H 3) (.pv (i64 x)::Bf F)=_
    rw[Pa,ih];rfl
  have hch:chunk 3 true k (D.flatten.map i64)=D.map dI:=by
   have:=CC (sz:=3) (D:=D.map fun r=>r.map i64) (by
    intro r hr
    obtain⟨q,hq,rfl⟩:=List.mem_map.1 hr
    rw[List.length_map,hD q hq])
   rw[List.length_map,List.map_map,←List.map_flatten,hk] at this
   exact this
  have h5:(qv o0 o1 (.tok 1 k nl) (.seq 3 true (Bf D.flatten) fl nr) (.pv S') (.pv V) (.uq 4 nl 1 ds) (.own 5 k) (.pv (i64 m)) nx es)[5]? =some (.seq 3 true (Bf D.flatten) fl nr):=rfl
  have hb:(qv o0 o1 (.tok 1 k nl) (.seq 3 true (Bf D.flatten) fl nr) (.pv S') (.pv V) (.uq 4 nl 1 ds) (.own 5 k) (.pv (i64 m)) nx es)[2]? =some (.box [.pv S',.pv V,.uq 3 nx 256 es,.uq 4 nl 1 ds,.own 5 k,.pv (i64 m)]):=rfl
  have ho:Vb (qv o0 o1 (.tok 1 k nl) (.seq 3 true (Bf D.flatten) fl nr) (.pv S') (.pv V) (.uq 4 nl 1 ds) (.own 5 k) (.pv (i64 m)) nx es) 4 (.own 5 k)=some (if nr then .fa else .lit 3 (D.map dI)):=by
   simp only[Vb,h5,if_pos hc,hm,Option.map_some,hch]
   cases nr <;> rfl
  generalize qv o0 o1 (.tok 1 k nl) (.seq 3 true (Bf D.flatten) fl nr) (.pv S') (.pv V) (.uq 4 nl 1 ds) (.own 5 k) (.pv (i64 m)) nx es=H at *
  show (match H[2]? with | some (.box cells)=>(Pa (Vb H 4) cells).map fun ps=>PV.rp ps 0 | _=>none)=_
  rw[hb]
  have hv:∀ p:PV,Vb H 4 (.pv p)=some p:=fun p=>rfl
  have hu:∀ id nl sz es,Vb H 4 (.uq id nl sz es)=some (if nl then .fa else .lit sz es):=fun _ _ _ _=>rfl
  simp only[Pa,hv,hu,ho,Option.bind_some,Option.map_some]
 ·cases nx with
  |false=>exact .inr rfl
  |true=>exact .inl ⟨rfl,h3 rfl⟩
 ·cases nl with
  |false=>exact .inr rfl
  |true=>exact .inl ⟨rfl,h1 rfl⟩
 ·cases nr with
  |false=>exact .inr rfl
  |true=>exact .inl ⟨rfl,by rw[h2 rfl];rfl⟩
theorem nT {ss:List mc} (h32:ss.length≤32) {H:List ba} {fl:Nat} {nr:Bool} (hH:H[5]? =some (.seq 3 true (Bf (Yh ss ss.length).flatten) fl nr)):
 fh Yq (fun _=>none) 8 34 [.own 5 ss.length,.Gk 36 []] H=some (.pv (.oc []),H.set 5 (.seq 3 true (Bf (Mi ss).flatten) (ss.length * 3) nr)):=by
 have e34:∀ (d:Nat) args H,fh Yq (fun _=>none) (d+1) 34 args H=Ny 3 0 36 args H:=fun d args H=>rfl
 rw[e34 7]
 have hl:(Bf (Yh ss ss.length).flatten).length=ss.length * 3:=by rw[List.length_map,Hw fun r hr=>Dw hr,Bp]
 simp only[Ny,hH]
 rw[if_pos ⟨trivial,trivial,hl.symm,by omega⟩,Gu,Option.map_some,hl]
 have:=Ey (D:=Yh ss ss.length) fun r hr=>Dw hr
 rw[Bp] at this
 rw[this];rfl
theorem bD {S:PV} {ss:List mc} {es:List PV} (hS:pb S ss es) (Aa:Ec ss) (hpre:Fg ss) {l:List (List ef)} (ha:Pg ss=some l) {a b:Int} (hi:Eg [.agg [S]]=some (.oc [.agg [.bool true,i64 a,i64 b],i64 0])):
 ∃ T,Gb [.agg [S]]=some (.oc [T,i64 0])∧Iu T ss l:=by
 have hS1:(AV.pv S).one=true:=by rcases hS.is with⟨h,_⟩ | h <;> rw[h] <;> rfl
 have hb:=(Wh hS).2.2.2 Aa hpre l ha
 obtain⟨S',hcp,hS'⟩:=wE hS Aa
 have hS'1:(AV.pv S').one=true:=by rcases hS' with⟨h,_⟩ | h <;> rw[h] <;> rfl
 have lS:=hS.Tb
 obtain⟨k64,k256⟩:=Pz ha
 have hst:=ZC k64 k256
 have hV1:(AV.pv (Yk l)).one=true:=rfl
 have hVl:Th 1 (Yk l) (l.map Wd):= .inr rfl
 have lV:=hVl.len
 rw[List.length_map] at lV
 have heo:=BE Aa hpre ha
 obtain⟨V,hVe⟩:∃ V,V=Yk l:=⟨_,rfl⟩
 rw[← hVe] at hb hst hV1 hVl lV
 have st:La [.box [.pv .fa]] 1 (.ptr 0 0) (.pv (.agg [V]))=some [.box [.pv V]]:=by simp[La,AV.cells,PV.cells,hV1,na]
 have st2:La [.box [.pv V],.box [.pv (.bool false),.pv (i64 0),.pv (i64 0)]] 3 (.ptr 1 0) (.pv (.agg [.bool true,i64 a,i64 b]))=some [.box [.pv V],.box [.pv (.bool true),.pv (i64 a),.pv (i64 b)]]:=rfl
 have p2:∀ a b c d,place [a,.box [b,c,d]] 0 (.ptr 1 0)=some (.ptr 1 0):=fun a b c d=>rfl
 have l2:∀ a b c d,ya [a,.box [b,c,d]] false 1 (.ptr 1 0)=some b:=fun a b c d=>rfl
 have l3:ya [.box [.pv V],.box [.pv (.bool true),.pv (i64 a),.pv (i64 b)]] true 1 (.ptr 0 0)=some (.pv (.agg [V])):=rfl
 have z0:((0:Int)==0)=true:=rfl
 have z1:((0:Int) != 0)=false:=rfl
 have m1:na [AV.pv PV.fa,.pv .fa,.pv .fa,.pv .fa,.pv .fa,.pv (.int .i64 0)] 0 [AV.pv S']=[.pv S',.pv .fa,.pv .fa,.pv .fa,.pv .fa,.pv (.int .i64 0)]:=rfl
 have m2:na [AV.pv S',.pv .fa,.pv .fa,.pv .fa,.pv .fa,.pv (.int .i64 0)] 1 [AV.pv V]=[.pv S',.pv V,.pv .fa,.pv .fa,.pv .fa,.pv (.int .i64 0)]:=rfl
 have m3:Vd [AV.pv S',.pv V,.pv .fa,.pv .fa,.pv .fa,.pv (.int .i64 0)]=some [S',V,.fa,.fa,.fa,.int .i64 0]:=rfl
 have hz1:(0 < 256)=True:=by simp
 have hz2:(0 < 3)=True:=by simp
 have hz3:(0 < 1)=True:=by simp
 suffices key:Ld (fun r=>∃ T,r= .oc [T,i64 0]∧Iu T ss l) (Gb [.agg [S]]) by
  obtain⟨r,h1,T,rfl,h2⟩:=ec key
  exact⟨T,h1,h2⟩
 generalize hQ:(fun r=>∃ T,r=PV.oc [T,i64 0]∧_)=Q
 simp -implicitDefEqProofs only[Gb,fB.eq_1,SX,sevalprocAttr,Vh,hS1,hV1,hS'1,yd,ab,Wb,hb,hi,st,st2,p2,l2,l3,z0,z1,hcp,m1,m2,m3,az,qe,hz1,hz2,hz3,lS]
 generalize hEE:(Tr.set _ 48 _:Tr)=E
 have q4:E.get 4= .ptr 0 0:=by rw[← hEE];simp[Tr.aa]
 have q8:E.get 8= .ptr 2 0:=by rw[← hEE];simp[Tr.aa]
 have q46:E.get 46= .pv S:=by rw[← hEE];simp[Tr.aa]
 have q47:E.get 47= .pv (i64 ss.length):=by rw[← hEE];simp[Tr.aa]
 have q48:E.get 48= .pv (i64 0):=by rw[← hEE];simp[Tr.aa]
 refine xa (cV (call:=fh Yq (fun _=>none) 8) (wS (V:=V) (S':=S') (y:=true) (a:=a) (b:=b)) hS Aa q4 q8 q46 q47 q48) ?_
 rintro r ⟨_,E2,nl,nr,rfl,g4,g8,hnl,hnr⟩
 have hdl:(ss.map fun s=>Ij s.parts).length=ss.length:=by rw[List.length_map]
 have hrl:=Bp ss ss.length
 have hDl:=dG ss
 have p5:∀ d,place (Ww (.box [.pv V]) (.box [.pv (.bool true),.pv (i64 a),.pv (i64 b)]) (.tok 256 0 true) (.pv S') (.pv V) (.uq 3 true 256 []) nl (ss.map fun s=>Ij s.parts) (Yh ss ss.length) 0 nr (tj ss)) d (.ptr 2 0)=some (.ptr 2 (0+d)):=fun d=>we rfl d 0
 have l5:ya (Ww (.box [.pv V]) (.box [.pv (.bool true),.pv (i64 a),.pv (i64 b)]) (.tok 256 0 true) (.pv S') (.pv V) (.uq 3 true 256 []) nl (ss.map fun s=>Ij s.parts) (Yh ss ss.length) 0 nr (tj ss)) false 1 (.ptr 2 4)=some (.own 5 ss.length):=by
  rw[← hrl,Bp]
  show some (AV.own 5 (Yh ss ss.length).length)=_
  rw[hrl]
 have hsort:=nT Aa.len (H:=Ww (.box [.pv V]) (.box [.pv (.bool true),.pv (i64 a),.pv (i64 b)]) (.tok 256 0 true) (.pv S') (.pv V) (.uq 3 true 256 []) nl (ss.map fun s=>Ij s.parts) (Yh ss ss.length) 0 nr (tj ss)) rfl
 have hHT:(Ww (.box [.pv V]) (.box [.pv (.bool true),.pv (i64 a),.pv (i64 b)]) (.tok 256 0 true) (.pv S') (.pv V) (.uq 3 true 256 []) nl (ss.map fun s=>Ij s.parts) (Yh ss ss.length) 0 nr (tj ss)).set 5 (.seq 3 true (Bf (Mi ss).flatten) (ss.length * 3) nr)=qv (.box [.pv V]) (.box [.pv (.bool true),.pv (i64 a),.pv (i64 b)]) (.tok 1 ss.length nl) (.seq 3 true (Bf (Mi ss).flatten) (ss.length * 3) nr) (.pv S') (.pv V) (.uq 4 nl 1 (ss.map fun s=>Ij s.parts)) (.own 5 ss.length) (.pv (i64 (tj ss))) true []:=by
  unfold Ww qv
  rw[hdl,hrl];rfl
 rw[hHT] at hsort
 have p6:∀ d,place (qv (.box [.pv V]) (.box [.pv (.bool true),.pv (i64 a),.pv (i64 b)]) (.tok 1 ss.length nl) (.seq 3 true (Bf (Mi ss).flatten) (ss.length * 3) nr) (.pv S') (.pv V) (.uq 4 nl 1 (ss.map fun s=>Ij s.parts)) (.own 5 ss.length) (.pv (i64 (tj ss))) true []) d (.ptr 0 0)=some (.ptr 0 (0+d)):=fun d=>we rfl d 0
 have l6:ya (qv (.box [.pv V]) (.box [.pv (.bool true),.pv (i64 a),.pv (i64 b)]) (.tok 1 ss.length nl) (.seq 3 true (Bf (Mi ss).flatten) (ss.length * 3) nr) (.pv S') (.pv V) (.uq 4 nl 1 (ss.map fun s=>Ij s.parts)) (.own 5 ss.length) (.pv (i64 (tj ss))) true []) false 1 (.ptr 0 0)=some (.pv V):=rfl
 have hnx:=fun (E3:Tr) (r8:E3.get 8= .ptr 2 0) (r101:E3.get 101= .pv V) (r102:E3.get 102= .pv (i64 l.length)) (r103:E3.get 103= .pv (i64 0))=>
  bU (call:=fh Yq (fun _=>none) 8) (SS (V:=V) (S':=S') (y:=true) (a:=a) (b:=b) (m:=tj ss) (nl:=nl) (ds:=ss.map fun s=>Ij s.parts) (D:=Mi ss) (fl:=ss.length * 3) (k:=ss.length) (nr:=nr)) hVl k64 k256 heo r8 r101 r102 r103
 obtain⟨NX,hNX⟩:∃ x,x=fun nx=>qv (.box [.pv V]) (.box [.pv (.bool true),.pv (i64 a),.pv (i64 b)]) (.tok 1 ss.length nl) (.seq 3 true (Bf (Mi ss).flatten) (ss.length * 3) nr) (.pv S') (.pv V) (.uq 4 nl 1 (ss.map fun s=>Ij s.parts)) (.own 5 ss.length) (.pv (i64 (tj ss))) nx (l.map Tn):=⟨_,rfl⟩
 have hnx':=hnx
 generalize Ww (.box [.pv V]) (.box [.pv (.bool true),.pv (i64 a),.pv (i64 b)]) (.tok 256 0 true) (.pv S') (.pv V) (.uq 3 true 256 []) nl (ss.map fun s=>Ij s.parts) (Yh ss ss.length) 0 nr (tj ss)=HS at *
 simp -implicitDefEqProofs only[SX,sevalprocAttr,g4,g8,p5,l5,hsort,p6,l6,lV]
 generalize hEE3:(Tr.set _ 103 _:Tr)=E3
 refine xa (hnx E3 (by rw[← hEE3];simp[Tr.aa,g8]) (by rw[← hEE3];simp[Tr.aa]) (by rw[← hEE3];simp[Tr.aa]) (by rw[← hEE3];simp[Tr.aa])) ?_
 rintro r ⟨_,E4,nx,rfl,r8,hx⟩
 obtain⟨NX,DG,RW,t1,t2,t3,t4⟩:=CS (V:=V) (S':=S') (o0:= .box [.pv V]) (o1:= .box [.pv (.bool true),.pv (i64 a),.pv (i64 b)]) (m:=tj ss) (nl:=nl) (nr:=nr) (nx:=nx) (ds:=ss.map fun s=>Ij s.parts) (es:=l.map Tn) (D:=Mi ss) (fl:=ss.length * 3) (k:=ss.length) hDl (fun r hr=>vA hr) (fun h=>by rw[hnl h];rfl) (fun h=>by have:=hDl;rw[hnr h] at this ⊢;exact List.eq_nil_of_length_eq_zero this) (fun h=>by rw[hx h];rfl)
 generalize qv (.box [.pv V]) (.box [.pv (.bool true),.pv (i64 a),.pv (i64 b)]) (.tok 1 ss.length nl) (.seq 3 true (Bf (Mi ss).flatten) (ss.length * 3) nr) (.pv S') (.pv V) (.uq 4 nl 1 (ss.map fun s=>Ij s.parts)) (.own 5 ss.length) (.pv (i64 (tj ss))) nx (l.map Tn)=HT at *
 have hm1:nw [AV.ptr 2 0,.pv (.int .i64 0)]= .oc [.ptr 2 0,.pv (.int .i64 0)]:=rfl
 have htp:Vb HT 6 (.oc [.ptr 2 0,.pv (.int .i64 0)])=some (.oc [.rp [S',V,NX,DG,RW,i64 (tj ss)] 0,i64 0]):=by
  show (Pa (Vb HT 5) [AV.ptr 2 0,.pv (.int .i64 0)]).map PV.oc=_
  have hv:Vb HT 5 (.pv (.int .i64 0))=some (.int .i64 0):=rfl
  simp only[Pa,t1,hv,Option.bind_some,Option.map_some]
 simp -implicitDefEqProofs only[SX,sevalprocAttr,r8,UC,hm1,htp]
 subst hQ
 exact⟨_,rfl,⟨S',NX,DG,RW,by rw[hVe],hS',t2,t3,t4⟩⟩
theorem Ap {S:PV} {ss:List mc} {es:List PV} (hS:pb S ss es):∃ T n,Gb [.agg [S]]=some (.oc [T,i64 n])∧(n≠0→T= .Kf)∧
 (¬ Ec ss→n=84)∧(Ec ss→¬Fg ss→n=110)∧(Ec ss→Fg ss→¬bm ss→n=111)∧(Ec ss→Fg ss→bm ss→Pg ss=none→n=130)∧
 (∀ l,Ec ss→Fg ss→bm ss→Pg ss=some l→n=0∧Iu T ss l):=by
 have hb:=Wh hS
 by_cases h1:Ec ss
 ·by_cases h2:Fg ss
  ·obtain⟨y,a,b,hi,hy⟩:=eL hS h1
   by_cases h3:bm ss
   ·have:=hy.2 h3
    subst this
    cases h4:Pg ss with
    |none=>
     have:=AB hS (n:=130) (V:= .fa) rfl (.inr rfl) (.inl rfl) (hb.2.2.1 h1 h2 h4) hi
     exact⟨.Kf,130,this,fun _=>rfl,fun h=>absurd h1 h,fun _ h=>absurd h2 h,fun _ _ h=>absurd h3 h,fun _ _ _ _=>rfl,fun l _ _ _ h=>(by cases h)⟩
    |some l=>
     obtain⟨T,t1,t2⟩:=bD hS h1 h2 h4 hi
     refine⟨T,0,t1,fun h=>absurd rfl h,fun h=>absurd h1 h,fun _ h=>absurd h2 h,fun _ _ h=>absurd h3 h,fun _ _ _ h=>(by cases h),fun l' _ _ _ h=> ?_⟩
     injection h with h
     exact⟨rfl,h ▸ t2⟩
   ·have hyf:y=false:=by cases y with | false=>rfl | true=>exact absurd (hy.1 rfl) h3
    subst hyf
    have key:∃ n V,(AV.pv V).one=true∧(n=0∨n=130)∧yc [.agg [S]]=some (.oc [.agg [V],i64 n]):=by
     cases h4:Pg ss with
     |none=>exact⟨130,.fa,rfl,.inr rfl,hb.2.2.1 h1 h2 h4⟩
     |some l=>exact⟨0,Yk l,rfl,.inl rfl,hb.2.2.2 h1 h2 l h4⟩
    obtain⟨n,V,k1,k2,k3⟩:=key
    have:=AB hS k1 k2 (.inr rfl) k3 hi
    exact⟨.Kf,111,this,fun _=>rfl,fun h=>absurd h1 h,fun _ h=>absurd h2 h,fun _ _ _=>rfl,fun _ _ h=>absurd h h3,fun l _ _ h=>absurd h h3⟩
  ·have:=yB hS (n:=110) (V:= .fa) rfl (by decide) (by decide) (hb.2.1 h1 h2)
   exact⟨.Kf,110,this,fun _=>rfl,fun h=>absurd h1 h,fun _ _=>rfl,fun _ h=>absurd h h2,fun _ h=>absurd h h2,fun l _ h=>absurd h h2⟩
 ·have:=yB hS (n:=84) (V:= .fa) rfl (by decide) (by decide) (hb.1 h1)
  exact⟨.Kf,84,this,fun _=>rfl,fun _=>rfl,fun h=>absurd h h1,fun h=>absurd h h1,fun h=>absurd h h1,fun l h=>absurd h h1⟩
theorem HP {S:PV} {ss:List mc} {es:List PV} (hS:pb S ss es):∃ T n,Gb [.agg [S]]=some (.oc [T,i64 n])∧
 ((n≠0∧T= .Kf)∨(n=0∧Ec ss∧Fg ss∧bm ss∧∃ l,Pg ss=some l∧Iu T ss l∧∀ e∈l,pn e)):=by
 obtain⟨T,n,hc,hn,h1,h2,h3,h4,h5⟩:=Ap hS
 refine⟨T,n,hc,?_⟩
 by_cases h0:n=0
 ·refine .inr ⟨h0,?_⟩
  by_cases k1:Ec ss
  ·by_cases k2:Fg ss
   ·by_cases k3:bm ss
    ·cases k4:Pg ss with
     |none=>have:=h4 k1 k2 k3 k4;omega
     |some l=>exact⟨k1,k2,k3,l,rfl,(h5 l k1 k2 k3 k4).2,BE k1 k2 k4⟩
    ·have:=h3 k1 k2 k3;omega
   ·have:=h2 k1 k2;omega
  ·have:=h1 k1;omega
 ·exact .inl ⟨h0,hn h0⟩
end Go.AM.B1
namespace Go.AM.B1
open Go.AM Go.AM.So
theorem qC {p q:mc} (op:ue p) (oq:ue q) (hle:p.parts.length≤q.parts.length):Le p q=true↔∀ k (h1:k < p.parts.length) (h2:k < q.parts.length),∃ x,x < 256∧Fi p.parts[k] x=true∧Fi q.parts[k] x=true:=by
 have key:∀ (m i:Nat),i+m=p.parts.length→((bc p.parts q.parts m i).isSome=true↔∀ k,i≤k→(h1:k < p.parts.length)→(h2:k < q.parts.length)→∃ x,x < 256∧Fi p.parts[k] x=true∧Fi q.parts[k] x=true):=by
  intro m
  induction m with
  |zero=>intro i hi;exact⟨fun _ k hk h1=>by omega,fun _=>rfl⟩
  |succ m ih=>
   intro i hi
   have h1:i < p.parts.length:=by omega
   have h2:i < q.parts.length:=by omega
   have hm:=cy h1 h2 (op.parts _ (List.getElem_mem h1)).2 (oq.parts _ (List.getElem_mem h2)).2
   have hI:=ih (i+1) (by omega)
   rw[bc]
   cases hmt:Ho p.parts q.parts i with
   |nil=>
    constructor
    ·intro h;cases h
    ·intro h;exact absurd hmt (hm.2 (h i (Nat.le_refl _) h1 h2))
   |cons a r=>
    simp only[Option.isSome_map]
    rw[hI]
    constructor
    ·intro h k hk g1 g2
     rcases Nat.lt_or_ge i k with h3 | h3
     ·exact h k h3 g1 g2
     ·have:k=i:=by omega
      subst this
      exact hm.1 (by rw[hmt];simp)
    ·intro h k hk;exact h k (by omega)
 have:=key p.parts.length 0 (by omega)
 unfold Le
 rw[this]
 exact⟨fun h k h1 h2=>h k (by omega) h1 h2,fun h k _ h1 h2=>h k h1 h2⟩
theorem tC {p q:mc} (op:ue p) (oq:ue q) (h:p.parts.length=q.parts.length):Le p q=Le q p:=by
 rw[Bool.eq_iff_iff,qC op oq (by omega),qC oq op (by omega)]
 constructor
 ·intro k i h1 h2;obtain⟨x,a,b,c⟩:=k i h2 h1;exact⟨x,a,c,b⟩
 ·intro k i h1 h2;obtain⟨x,a,b,c⟩:=k i h2 h1;exact⟨x,a,c,b⟩
def xC (ss:List mc) (i j:Nat):Prop:=(hi:i < ss.length)→(hj:j < ss.length)→j < i→ss[i].parts.length=ss[j].parts.length→Le ss[i] ss[j]=false
theorem QF {ss:List mc} (Aa:Ec ss):bm ss↔∀ i j,xC ss i j:=by
 constructor
 ·intro h i j hi hj hlt he
  rw[tC (Aa.Vu _ (List.getElem_mem hi)) (Aa.Vu _ (List.getElem_mem hj)) he]
  exact h j i hj hi hlt he.symm
 ·intro h i j hi hj hlt he
  rw[tC (Aa.Vu _ (List.getElem_mem hi)) (Aa.Vu _ (List.getElem_mem hj)) he]
  exact h j i hj hi hlt he.symm
section
variable {S:PV} {ss:List mc} {es:List PV} (hS:pb S ss es) (Aa:Ec ss)
include hS Aa
theorem DH (call:Xa) {i:Nat} (hi:i < ss.length) {E:Tr} (h1:E.get 1= .pv (.rp [S] 0)) (h4:E.get 4= .pv (i64 i)) (h5:E.get 5= .pv (i64 0)):
 Ld (fun r=>r.1.stop=true∧((∃ E',r=(.exit 2,⟨E',[]⟩)∧Jc [1,4] E E'∧∀ j,xC ss i j)∨∃ E',r=(.ret,⟨E',[]⟩)∧E'.get 2= .pv (.bool false)∧E'.get 3= .pv (i64 0)∧¬bm ss))
  (ta call (.loop [1,4,5] Bd) ⟨E,[]⟩):=by
 have h32:=Aa.len
 have ln:=hS.Tb
 obtain⟨P,ps,hP,a1⟩:=hS.Pd hi
 have okp:=Aa.Vu _ (List.getElem_mem hi)
 have lP:=hP.parts.Tb
 refine vn (fun j t=>Jc [1,4] E t.env∧t.env.get 5= .pv (i64 j)∧t.H=[]∧∀ j',j' < j→xC ss i j') i (by unfold qa;omega)
  (Sf.all rfl (by simp) (Fit.cons h1 Ha (.cons h4 Ha (.cons h5 Ha (.nil _ _)))) fun E' hE=>⟨Jc.sub hE rfl,by rw[hE 5 (by simp),h5];rfl,rfl,fun j h=>by omega⟩) ?_ ?_
 ·rintro j ⟨E1,H1⟩ hj ⟨k1,k5,k3,hs⟩
  simp only at k1 k5 k3
  subst k3
  have hjl:j < ss.length:=by omega
  have g1:=(k1 1 (by simp)).trans h1
  have g4:=(k1 4 (by simp)).trans h4
  obtain⟨Q,qs,hQ,a2⟩:=hS.Pd hjl
  have okq:=Aa.Vu _ (List.getElem_mem hjl)
  have hcm:=fun (h:ss[i].parts.length≤ss[j].parts.length)=>Uv hP hQ okp okq (n:=ss[i].parts.length) (Nat.le_refl _) h
  have lQ:=hQ.parts.Tb
  have hat:∀ b,(ss[i].parts.length=ss[j].parts.length→Le ss[i] ss[j]=b)→b=false→∀ j',j' < j+1→xC ss i j':=by
   intro b hb hb0 j' hj'
   rcases Nat.lt_or_ge j' j with h3 | h3
   ·exact hs j' h3
   ·have:j'=j:=by omega
    subst this
    intro _ _ _ he
    rw[hb he,hb0]
  have hbad:ss[i].parts.length=ss[j].parts.length→Le ss[i] ss[j]=true→¬bm ss:=fun he hm h=>by
   have:=(QF Aa).1 h i j hi hjl hj he
   rw[hm] at this;cases this
  unfold Le at hat hbad
  generalize ss[i]=p at *
  generalize ss[j]=q at *
  have e1:decide ((j:Int) < (i:Int))=true:=Ea (by omega)
  have t2:IntKind.i64.wrap ((j:Int)+1)=((j+1:Nat):Int):=Hk (by omega)
  have fin:(∀ j',j' < j+1→xC ss i j')→∀ E2:Tr,Jc [1,4] E E2→E2.get 5= .pv (i64 (j+1:Nat))→Sf ([]:List ba).length [1,4,5] (fun t=>Jc [1,4] E t.env∧t.env.get 5= .pv (i64 (j+1:Nat))∧t.H=[]∧∀ j',j' < j+1→xC ss i j') ⟨E2,[]⟩:=fun hn E2 kk z5=>
   Sf.all rfl (by simp) (Fit.sub (.cons z5 Ha (Fit.Te (l:=[1,4]) (.cons h1 Ha (.cons h4 Ha (.nil _ _))) kk)) rfl) fun E' hE=>⟨kk.trans (Jc.sub hE rfl),by rw[hE 5 (by simp),z5],rfl,hn⟩
  generalize hQQ:RQ _ _ _ _=QQ
  by_cases c1:p.parts.length=q.parts.length
  ·have d1:((p.parts.length:Int)==(q.parts.length:Int))=true:=by rw[c1];simp
   obtain⟨v,hv⟩:=hcm (by omega)
   cases hb:(bc p.parts q.parts p.parts.length 0).isSome with
   |true=>
    rw[hb] at hv
    simp -implicitDefEqProofs only[SX,sevalprocAttr,Bd,g1,g4,k5,e1,Wb,ab,Dc,xd,Sc,a1,a2,lP,lQ,d1,hv]
    subst hQQ
    exact .inr ⟨_,rfl,by simp[Tr.aa],by simp[Tr.aa],hbad c1 hb⟩
   |false=>
    rw[hb] at hv
    simp -implicitDefEqProofs only[SX,sevalprocAttr,Bd,g1,g4,k5,e1,t2,Wb,ab,Dc,xd,Sc,a1,a2,lP,lQ,d1,hv]
    subst hQQ
    rw[Ii]
    generalize hEE:(Tr.set _ 5 _:Tr)=E2
    refine fin (hat false (fun _=>hb) rfl) E2 (by rw[← hEE];(repeat refine Jc.set ?_ rfl);exact k1) (by rw[← hEE];simp[Tr.aa])
  ·have d1:((p.parts.length:Int)==(q.parts.length:Int))=false:=beq_false_of_ne (by omega)
   simp -implicitDefEqProofs only[SX,sevalprocAttr,Bd,g1,g4,k5,e1,t2,Wb,ab,Dc,xd,Sc,a1,a2,lP,lQ,d1]
   subst hQQ
   rw[Ii]
   generalize hEE:(Tr.set _ 5 _:Tr)=E2
   refine fin (hat false (fun h=>absurd h c1) rfl) E2 (by rw[← hEE];(repeat refine Jc.set ?_ rfl);exact k1) (by rw[← hEE];simp[Tr.aa])
 ·rintro⟨E1,H1⟩ ⟨k1,k5,k3,hs⟩
  simp only at k1 k5 k3
  subst k3
  have g4:=(k1 4 (by simp)).trans h4
  have e1:decide ((i:Int) < (i:Int))=false:=Fa (by omega)
  generalize hQ:(fun r:Ex×St=>r.1.stop=true∧_)=QQ
  simp -implicitDefEqProofs only[SX,sevalprocAttr,Bd,g4,k5,e1]
  subst hQ
  refine⟨rfl,.inl ⟨_,rfl,?_,fun j a b c=>hs j c a b c⟩⟩
  repeat refine Jc.set ?_ rfl
  exact k1
theorem Nx:∃ b,ve [.agg [S]]=some (.oc [.bool b,i64 0])∧(b=true↔bm ss):=by
 have ln:=hS.Tb
 have hS1:(AV.pv S).one=true:=by rcases hS.is with⟨h,_⟩ | h <;> rw[h] <;> rfl
 obtain⟨b,hb,hbb⟩:=Gv hS
 have:=hbb.2 Aa
 subst this
 have h32:=Aa.len
 have hloop:=fun (E:Tr) (h1:E.get 1= .pv (.rp [S] 0)) (h4:E.get 4= .pv (i64 0))=>
  vn (call:=Ca (fun _=>none) 8) (b:=Mf) (live:=[1,4]) (s:=⟨E,[]⟩) (Q:=fun r=>(∃ E',r=(.exit 0,⟨E',[]⟩)∧bm ss)∨∃ E',r=(.ret,⟨E',[]⟩)∧E'.get 2= .pv (.bool false)∧E'.get 3= .pv (i64 0)∧¬bm ss)
   (fun i t=>Jc [1] E t.env∧t.env.get 4= .pv (i64 i)∧t.H=[]∧∀ i',i' < i→∀ j,xC ss i' j) ss.length (by unfold qa;omega)
   (Sf.all rfl (by simp) (Fit.cons h1 Ha (.cons h4 Ha (.nil _ _))) fun E' hE=>⟨Jc.sub hE rfl,by rw[hE 4 (by simp),h4];rfl,rfl,fun i h=>by omega⟩)
   (by
    rintro i ⟨E1,H1⟩ hi ⟨k1,k4,k3,hs⟩
    simp only at k1 k4 k3
    subst k3
    have g1:=(k1 1 (by simp)).trans h1
    have e1:decide ((i:Int) < (ss.length:Int))=true:=Ea (by omega)
    have t2:=Va hi (by unfold maxLen;omega)
    generalize hQQ:RQ _ _ _ _=QQ
    simp -implicitDefEqProofs only[SX,sevalprocAttr,Mf,g1,k4,ln,e1,Wb,ab]
    generalize hEE:(Tr.set _ 5 _:Tr)=E2
    have z1:E2.get 1= .pv (.rp [S] 0):=by rw[← hEE];simp[Tr.aa,g1]
    have z4:E2.get 4= .pv (i64 i):=by rw[← hEE];simp[Tr.aa,k4]
    refine xa (DH hS Aa _ hi z1 z4 (by rw[← hEE];simp[Tr.aa])) ?_
    rintro _ ⟨_,⟨E3,rfl,k6,hp⟩ | ⟨E3,rfl,g2,g3,hp⟩⟩
    ·have y4:=(k6 4 (by simp)).trans z4
     simp -implicitDefEqProofs only[SX,sevalprocAttr,y4,t2]
     subst hQQ
     rw[Ii]
     generalize hE4:(Tr.set _ 4 _:Tr)=E4
     have y1:E4.get 1= .pv (.rp [S] 0):=by rw[← hE4];simp[Tr.aa];exact (k6 1 (by simp)).trans z1
     have y4:E4.get 4= .pv (i64 (i+1:Nat)):=by rw[← hE4];simp[Tr.aa]
     exact Sf.all rfl (by simp) (Fit.cons y1 Ha (.cons y4 Ha (.nil _ _))) fun E' hE=>⟨fun t ht=>by
      rw[List.mem_singleton] at ht;subst ht
      rw[hE 1 (by simp),y1,h1],by rw[hE 4 (by simp),y4],rfl,fun i' hi' j=>by
      rcases Nat.lt_or_ge i' i with h3 | h3
      ·exact hs i' h3 j
      ·have:i'=i:=by omega
       subst this;exact hp j⟩
    ·simp -implicitDefEqProofs only[SX,sevalprocAttr]
     subst hQQ
     exact .inr ⟨_,rfl,g2,g3,hp⟩)
   (by
    rintro⟨E1,H1⟩ ⟨k1,k4,k3,hs⟩
    simp only at k1 k4 k3
    subst k3
    have g1:=(k1 1 (by simp)).trans h1
    have e1:decide ((ss.length:Int) < (ss.length:Int))=false:=Fa (by omega)
    generalize hQ:(fun r:Ex×St=>r.1.stop=true∧_)=QQ
    simp -implicitDefEqProofs only[SX,sevalprocAttr,Mf,g1,k4,ln,e1,Wb,ab]
    subst hQ
    exact⟨rfl,.inl ⟨_,rfl,(QF Aa).2 fun i j hi hj=>hs i hi j hi hj⟩⟩)
 have key:Ld (fun r=>∃ b,r=PV.oc [.bool b,i64 0]∧(b=true↔bm ss)) (ve [.agg [S]]):=by
  generalize hQQ:(fun r:PV=>_)=QQ
  simp -implicitDefEqProofs only[ve,SX,sevalprocAttr,Xi,hS1,Wb,ab,yd,hb]
  generalize hEE:(Tr.set _ 4 _:Tr)=E
  refine xa (hloop E (by rw[← hEE];simp[Tr.aa]) (by rw[← hEE];simp[Tr.aa])) ?_
  rintro _ ⟨_,⟨E',rfl,hp⟩ | ⟨E',rfl,g2,g3,hp⟩⟩
  ·simp -implicitDefEqProofs only[SX,sevalprocAttr]
   subst hQQ
   exact⟨true,rfl,by simpa using hp⟩
  ·simp -implicitDefEqProofs only[SX,sevalprocAttr,g2,g3]
   subst hQQ
   exact⟨false,rfl,by simpa using hp⟩
 obtain⟨r,h1,b,rfl,hb⟩:=ec key
 exact⟨b,h1,hb⟩
end
theorem mG {S V:PV} {ss:List mc} {es:List PV} (hS:pb S ss es) {m:Int} (hV:(AV.pv V).one=true) (hm:m=84∨m=110) (hb:Za [.agg [S]]=some (.oc [.agg [V],i64 m])):bd [.agg [S]]=some (.oc [.agg [.fa],i64 m]):=by
 have hS1:(AV.pv S).one=true:=by rcases hS.is with⟨h,_⟩ | h <;> rw[h] <;> rfl
 have s1:La [.box [.pv .fa],.box [.pv .fa]] 1 (.ptr 1 0) (.pv (.agg [V]))=some [.box [.pv .fa],.box [.pv V]]:=by simp[La,AV.cells,PV.cells,hV,na]
 have s0:La [.box [.pv .fa],.box [.pv V]] 1 (.ptr 0 0) (.pv (.agg [.fa]))=some [.box [.pv .fa],.box [.pv V]]:=rfl
 have ld:ya [.box [.pv .fa],.box [.pv V]] true 1 (.ptr 0 0)=some (.pv (.agg [.fa])):=rfl
 have z1:((84:Int)==84)=true:=rfl
 have z2:((110:Int)==84)=false:=rfl
 have z3:((110:Int)==110)=true:=rfl
 rcases hm with rfl | rfl <;>
 simp -implicitDefEqProofs only[bd,SX,sevalprocAttr,zg,hS1,yd,hb,s1,s0,ld,z1,z2,z3]
theorem tw {S V:PV} {ss:List mc} {es:List PV} (hS:pb S ss es) {m:Int} {b:Bool} (hV:(AV.pv V).one=true) (h1:m≠84) (h2:m≠110) (hb:Za [.agg [S]]=some (.oc [.agg [V],i64 m])) (hi:ve [.agg [S]]=some (.oc [.bool b,i64 0])):
 bd [.agg [S]]=some (.oc [.agg [if b then V else .fa],i64 (if b then m else 111)]):=by
 have hS1:(AV.pv S).one=true:=by rcases hS.is with⟨h,_⟩ | h <;> rw[h] <;> rfl
 have s1:La [.box [.pv .fa],.box [.pv .fa]] 1 (.ptr 1 0) (.pv (.agg [V]))=some [.box [.pv .fa],.box [.pv V]]:=by simp[La,AV.cells,PV.cells,hV,na]
 have s0:La [.box [.pv .fa],.box [.pv V]] 1 (.ptr 0 0) (.pv (.agg [.fa]))=some [.box [.pv .fa],.box [.pv V]]:=rfl
 have s2:La [.box [.pv .fa],.box [.pv V]] 1 (.ptr 0 0) (.pv (.agg [V]))=some [.box [.pv V],.box [.pv V]]:=by simp[La,AV.cells,PV.cells,hV,na]
 have ld:∀ W:PV,ya [.box [.pv W],.box [.pv V]] true 1 (.ptr 0 0)=some (.pv (.agg [W])):=fun W=>rfl
 have ld1:ya [.box [.pv .fa],.box [.pv V]] true 1 (.ptr 1 0)=some (.pv (.agg [V])):=rfl
 have z1:(m==84)=false:=beq_false_of_ne h1
 have z2:(m==110)=false:=beq_false_of_ne h2
 cases b <;>
 simp -implicitDefEqProofs only[bd,SX,sevalprocAttr,zg,hS1,yd,hb,hi,s1,s0,s2,ld,ld1,z1,z2]
theorem sH (ss:List mc):∃ n V,(∀ (S:PV) (es:List PV),pb S ss es→bd [.agg [S]]=some (.oc [.agg [V],i64 n]))∧(n=0→∃ l,Pg ss=some l∧V=Yk l)∧(AV.pv V).one=true∧
 (∀ (S:PV) (es:List PV),pb S ss es→∃ T,Gb [.agg [S]]=some (.oc [T,i64 n])∧((n≠0∧T= .Kf)∨(n=0∧Ec ss∧Fg ss∧bm ss∧∃ l,Pg ss=some l∧Iu T ss l∧∀ e∈l,pn e))):=by
 obtain⟨VB,lB,m,hVB,_,_,hb1,hb2⟩:=oL ss
 have hval:∀ (S:PV) (es:List PV) (V':PV) (m':Int),pb S ss es→yc [.agg [S]]=some (.oc [.agg [V'],i64 m'])→Za [.agg [S]]=some (.oc [.agg [V'],i64 m']):=by
  intro S es V' m' hS h
  rw[hb2 S es hS,←hb1 S es hS,h]
 have Df:∀ n:Int,(∀ (S:PV) (es:List PV),pb S ss es→∀ T k,Gb [.agg [S]]=some (.oc [T,i64 k])→k=n)→∀ (S:PV) (es:List PV),pb S ss es→∃ T,Gb [.agg [S]]=some (.oc [T,i64 n])∧((n≠0∧T= .Kf)∨(n=0∧Ec ss∧Fg ss∧bm ss∧∃ l,Pg ss=some l∧Iu T ss l∧∀ e∈l,pn e)):=by
  intro n hn S es hS
  obtain⟨T,k,h1,h2⟩:=HP hS
  obtain rfl:=hn S es hS T k h1
  exact⟨T,h1,h2⟩
 have same:∀ {S:PV} {T T':PV} {k k':Int},Gb [.agg [S]]=some (.oc [T,i64 k])→Gb [.agg [S]]=some (.oc [T',i64 k'])→k=k':=by
  intro S T T' k k' h1 h2
  rw[h1] at h2
  injection h2 with h2
  injection h2 with h2
  injection h2 with _ h2
  injection h2 with h2 _
  injection h2
 have aut:Pg ss=none∨∃ l,Pg ss=some l:=by
  cases Pg ss with
  |none=>exact .inl rfl
  |some l=>exact .inr ⟨l,rfl⟩
 have one:∀ {l:List (List ef)},(AV.pv (Yk l)).one=true:=fun {l}=>rfl
 by_cases h1:Ec ss
 ·by_cases h2:Fg ss
  ·by_cases h3:bm ss
   ·rcases aut with h4 | ⟨l,h4⟩
    ·skip
     refine⟨130,.fa,fun S es hS=> ?_,fun h=>(by cases h),rfl,Df 130 fun S es hS T k hk=> ?_⟩
     ·obtain⟨b,i1,i2⟩:=Nx hS h1
      have:=i2.2 h3
      subst this
      exact tw hS rfl (by decide) (by decide) (hval S es _ _ hS ((Wh hS).2.2.1 h1 h2 h4)) i1
     ·obtain⟨T',n,t1,_,_,_,_,t2,_⟩:=Ap hS
      have:=t2 h1 h2 h3 h4
      subst this
      exact same hk t1
    ·skip
     refine⟨0,Yk l,fun S es hS=> ?_,fun _=>⟨l,h4,rfl⟩,one,Df 0 fun S es hS T k hk=> ?_⟩
     ·obtain⟨b,i1,i2⟩:=Nx hS h1
      have:=i2.2 h3
      subst this
      exact tw hS one (by decide) (by decide) (hval S es _ _ hS ((Wh hS).2.2.2 h1 h2 l h4)) i1
     ·obtain⟨T',n,t1,_,_,_,_,_,t2⟩:=Ap hS
      have:=(t2 l h1 h2 h3 h4).1
      subst this
      exact same hk t1
   ·refine⟨111,.fa,fun S es hS=> ?_,fun h=>(by cases h),rfl,Df 111 fun S es hS T k hk=> ?_⟩
    ·obtain⟨b,i1,i2⟩:=Nx hS h1
     have hb:b=false:=by cases b with | false=>rfl | true=>exact absurd (i2.1 rfl) h3
     subst hb
     cases h4:Pg ss with
     |none=>exact tw hS (V:= .fa) rfl (by decide) (by decide) (hval S es _ _ hS ((Wh hS).2.2.1 h1 h2 h4)) i1
     |some l=>exact tw hS one (by decide) (by decide) (hval S es _ _ hS ((Wh hS).2.2.2 h1 h2 l h4)) i1
    ·obtain⟨T',n,t1,_,_,_,t2,_⟩:=Ap hS
     have:=t2 h1 h2 h3
     subst this
     exact same hk t1
  ·refine⟨110,.fa,fun S es hS=>mG hS (V:= .fa) rfl (.inr rfl) (hval S es _ _ hS ((Wh hS).2.1 h1 h2)),fun h=>(by cases h),rfl,Df 110 fun S es hS T k hk=> ?_⟩
   obtain⟨T',n,t1,_,_,t2,_⟩:=Ap hS
   have:=t2 h1 h2
   subst this
   exact same hk t1
 ·refine⟨84,.fa,fun S es hS=>mG hS (V:= .fa) rfl (.inl rfl) (hval S es _ _ hS ((Wh hS).1 h1)),fun h=>(by cases h),rfl,Df 84 fun S es hS T k hk=> ?_⟩
  obtain⟨T',n,t1,_,t2,_⟩:=Ap hS
  have:=t2 h1
  subst this
  exact same hk t1
end Go.AM.B1
namespace Go.AM.B1
open Go.AM Go.AM.So
def YL (ls:List (List (Int×Int))) (i:Nat):List PV:=(List.range 258).map fun k=>dJ ls (i * 258+k)
theorem aW (H:List ba) (d o:Nat) (row:List PV):place H d (.pv (.rp row o))=some (.pv (.rp row (o+d))):=rfl
theorem OO {ls:List (List (Int×Int))} {i:Nat} (hi:i < ls.length) (H:List ba):wa H 258 (.pv (.lit 258 ((List.range ls.length).map (kQ ls)))) (i:Int)=some (.pv (.rp (YL ls i) 0)):=by
 simp only[wa]
 rw[if_pos ⟨trivial,by unfold Ga;simp;omega⟩,Int.toNat_natCast,List.getElem?_map,List.getElem?_range hi];rfl
theorem WJ {ls:List (List (Int×Int))} {i k:Nat} (hk:k < 258) (H:List ba):ya H false 1 (.pv (.rp (YL ls i) k))=some (.pv (dJ ls (i * 258+k))):=by
 have:(YL ls i)[k]? =some (dJ ls (i * 258+k)):=by rw[YL,List.getElem?_map,List.getElem?_range hk];rfl
 simp only[ya,xl,Bool.false_eq_true,if_false,this];rfl
theorem JW {ls:List (List (Int×Int))} {i:Nat} (H:List ba):ya H false 1 (.pv (.rp (YL ls i) 0))=some (.pv (Bo (ls.getD i []))):=by
 rw[WJ (by omega),dJ,if_pos (by omega),show (i * 258+0) / 258=i by omega]
theorem WW {ls:List (List (Int×Int))} {i:Nat} (H:List ba):ya H false 1 (.pv (.rp (YL ls i) 257))=some (.pv (i64 (Qa (ls.drop (i+1))))):=by
 rw[WJ (by omega),dJ,if_neg (by omega),if_pos (by omega),show (i * 258+257) / 258=i by omega]
theorem RT {ls:List (List (Int×Int))} {i:Nat} (hi:i < ls.length):ls.getD i []=ls[i]:=by rw[List.getD_eq_getElem?_getD,List.getElem?_eq_getElem hi];rfl
theorem IT {l:List (Int×Int)} (h:Hd l) {k x:Int} (h0:0≤k) (h1:k < Lc 0 l) (hx:NH k l=some x):(ak l)[k.toNat]? =some x:=by
 obtain⟨y,q1,_,_,_,q5⟩:=tp h.2 h0 h1
 rw[hx] at q1;injection q1 with q1;subst q1
 have hr:=q5 0
 obtain⟨m,e1,e2⟩:=Fu (n:=0) h.2 (by rw[hr])
 rw[hr] at e2
 simp only at e2
 rw[show k.toNat=m by omega];exact e1
abbrev FN (C:PV) (n i k:Int) (es:List PV):Tr:=((((Tr.lf.set 19 (.pv (i64 i))).set 18 (.pv (i64 n))).set 5 (.uq 0 false 1 es)).set 1 (.pv (i64 k))).set 0 (.pv (.rp [C] 0))
theorem cE {s:mc} (Aa:ue s) {k:Int} (h0:0≤k) (h1:k < Qa s.parts):Jh [Ij s.parts,i64 k]=some (.lit 1 ((Ve s.parts k).map (PV.int .u8))):=by
 have h8:=Aa.hi
 have hpr:=Aa.prod.2
 have hia:=fun {i:Nat} (hi:i < s.parts.length)=>OO (ls:=s.parts) hi
 have hcl:((List.range s.parts.length).map (kQ s.parts)).length=s.parts.length:=by simp
 have hdg:Ij s.parts= .rp [.lit 258 ((List.range s.parts.length).map (kQ s.parts))] 0:=rfl
 rw[hdg]
 generalize (List.range s.parts.length).map (kQ s.parts)=C at *
 have hloop:Ld (fun r=>∃ E H,r=(.exit 0,⟨E,H⟩)∧E.get 5= .uq 0 false 1 ((Ve s.parts k).map (PV.int .u8)))
  (fb (ma (ta (Ca (fun _=>none) 8) xf) (ga 1 [0,1,5,18,19])) qa ⟨FN (.lit 258 C) s.parts.length 0 k [],[.tok 1 0 false]⟩):=by
  refine xa (yb (fun i t=>∃ j es,t=⟨FN (.lit 258 C) s.parts.length i j (es.map (PV.int .u8)),[.tok 1 i false]⟩∧0≤j∧j < Qa (s.parts.drop i)∧es.length=i∧Ve s.parts k=es++Ve (s.parts.drop i) j)
   s.parts.length (by unfold qa;omega) _ ⟨k,[],rfl,h0,h1,rfl,rfl⟩ ?_ ?_) (fun r h=>h.2)
  ·rintro i t hi ⟨j,es,rfl,hj0,hj1,hel,hs⟩
   have hpo:=Aa.parts s.parts[i] (List.getElem_mem hi)
   have hd:s.parts.drop i=s.parts[i]::s.parts.drop (i+1):=List.drop_eq_getElem_cons hi
   rw[hd,Qa] at hj1
   rw[hd,Ve] at hs
   have hpos:=Ng (ls:=s.parts.drop (i+1)) fun x hx=>Aa.parts x (List.mem_of_mem_drop hx)
   have hle:=rl Aa.parts (i+1)
   have hdv:=DL hj0 hpos hj1
   obtain⟨x,q3,q4,q5,_⟩:=tp hpo.2 hdv.1 hdv.2.1
   rw[q3,Option.getD_some] at hs
   have hm:=IT hpo hdv.1 hdv.2.1 q3
   have hml:=getElem?_lt hm
   have hle2:=rl Aa.parts i
   rw[hd,Qa] at hle2
   have t3:IntKind.i64.wrap (j.tdiv (Qa (s.parts.drop (i+1))))=j.tdiv (Qa (s.parts.drop (i+1))):=Ba (by
    have:=hdv.2.2.2.2
    have h5:j.tdiv (Qa (s.parts.drop (i+1))) * 1≤j.tdiv (Qa (s.parts.drop (i+1))) * Qa (s.parts.drop (i+1)):=Int.mul_le_mul_of_nonneg_left hpos hdv.1
    omega)
   have a1:=hia hi
   have a4:=WW (ls:=s.parts) (i:=i)
   have a5:=JW (ls:=s.parts) (i:=i)
   rw[RT hi] at a5
   generalize YL s.parts i=R at *
   generalize s.parts[i]=l at *
   have a6:∀ H,wa H 1 (.pv (Bo l)) (j.tdiv (Qa (s.parts.drop (i+1))))=some (.pv (.rp [.int .u8 x] 0)):=fun H=>by
    simp only[wa,Bo]
    rw[if_pos ⟨trivial,by unfold Ga;rw[List.length_map];omega⟩,List.getElem?_map,hm];rfl
   have e1:decide ((i:Int) < (s.parts.length:Int))=true:=Ea (by omega)
   have t2:=Va hi (by unfold maxLen;omega)
   have z0:(Qa (s.parts.drop (i+1))=0)=False:=by simp;omega
   have hap:=Dn (A:=[.tok 1 i false]) (id:=0) (n:=i) (h:= .uq) (nl:=false) (bytes:=1) (es:=es.map (PV.int .u8)) rfl (by simp[hel]) (by unfold mb;omega) (.int .u8 x)
   rw[List.set_cons_zero] at hap
   have hbm:(es++[x]).map (PV.int .u8)=es.map (PV.int .u8)++[.int .u8 x]:=by simp
   generalize hpq:Qa (s.parts.drop (i+1))=pr at *
   generalize hQ:LN _ _ i=QQ
   simp -implicitDefEqProofs only[SP,WP,na,sevalprocAttr,xf,e1,t2,t3,z0,a1,a4,a5,a6,aW,ab,hap,ga,za,AV.cut,oa,pa,FN]
   subst hQ
   exact⟨_,es++[x],by rw[hbm],hdv.2.2.1,by rw[hpq];exact hdv.2.2.2.1,by simp[hel],by rw[hs];simp⟩
  ·rintro t ⟨j,es,rfl,hj0,hj1,hel,hs⟩
   rw[List.drop_length,Ve,List.append_nil] at hs
   have e1:decide ((s.parts.length:Int) < (s.parts.length:Int))=false:=Fa (by omega)
   generalize hQ:(fun r:Ex×St=>r.1.stop=true∧_)=Q
   simp -implicitDefEqProofs only[SX,sevalprocAttr,xf,e1,FN]
   subst hQ
   exact⟨rfl,_,_,rfl,by rw[hs];simp[Tr.aa]⟩
 obtain⟨r,g1,E,H,rfl,g6⟩:=ec hloop
 have g1':fb (ma (ta (Ca (fun _=>none) 8) xf) (ga 1 [0,1,5,18,19])) qa ⟨((((Tr.lf.set 19 (.pv (.int .i64 0))).set 18 (.pv (i64 s.parts.length))).set 5 (.uq 0 false 1 [])).set 1 (.pv (i64 k))).set 0 (.pv (.rp [.lit 258 C] 0)),[.tok 1 0 false]⟩=some (.exit 0,⟨E,H⟩):=g1
 have e4:mb s.parts.length 1:=by unfold mb;omega
 have e2:(0≤(s.parts.length:Int))=True:=by simp
 have e5:((0:Int)≤0)=True:=by simp
 simp -implicitDefEqProofs only[Jh,SX,sevalprocAttr,Jj,aW,ab,hcl,eq_true e4,e2,e5,Cb,ga,za,AV.cut,oa,pa,g1',g6,xj,fresh,Vd,chunk]
end Go.AM.B1
namespace Go.AM.B1
open Go.AM Go.AM.So
theorem fK (H:List ba) (a b c d e f:PV):ya H false 1 (.pv (.rp [a,b,c,d,e,f] 2))=some (.pv c)∧ya H false 1 (.pv (.rp [a,b,c,d,e,f] 3))=some (.pv d)∧ya H false 1 (.pv (.rp [a,b,c,d,e,f] 4))=some (.pv e)∧ya H false 1 (.pv (.rp [a,b,c,d,e,f] 5))=some (.pv f)∧ya H false 1 (.pv (.rp [a,b,c,d,e,f] 0))=some (.pv a)∧ya H false 1 (.pv (.rp [a,b,c,d,e,f] 1))=some (.pv b)∧ya H true 1 (.pv (.rp [a,b,c,d,e,f] 0))=some (.pv (.agg [a])):=⟨rfl,rfl,rfl,rfl,rfl,rfl,rfl⟩
section
variable {T:PV} {ss:List mc} {l:List (List ef)} (hT:Iu T ss l) (ho:∀ e∈l,pn e)
include hT ho
end
end Go.AM.B1
namespace Go.AM.B1
open Go.AM Go.AM.So
def PG (a b:Int):Int:=if a < b then -1 else if a > b then 1 else 0
theorem tI (a b:Int):Mg [i64 a,i64 b]=some (i64 (PG a b)):=by
 have hn:∀ x:Int,vj [i64 x]=some (.bool false):=fun x=>by
  have z:(x != x)=false:=by simp
  simp -implicitDefEqProofs only[vj,SX,sevalprocAttr,vo,z]
 unfold PG
 by_cases h1:a < b
 ·have d1:decide (a < b)=true:=Ea h1
  rw[if_pos h1]
  simp -implicitDefEqProofs only[Mg,SX,sevalprocAttr,Xh,hn,d1]
 ·have d1:decide (a < b)=false:=Fa h1
  rw[if_neg h1]
  by_cases h2:a > b
  ·have d2:decide (a > b)=true:=Ea h2
   rw[if_pos h2]
   simp -implicitDefEqProofs only[Mg,SX,sevalprocAttr,Xh,hn,d1,d2]
  ·have d2:decide (a > b)=false:=Fa h2
   rw[if_neg h2]
   simp -implicitDefEqProofs only[Mg,SX,sevalprocAttr,Xh,hn,d1,d2]
theorem LJ (call:Xa) (a b c u:Int) (H:List ba):og call Wg [.pv (.agg [i64 a,i64 b,i64 c]),.pv (i64 u)] H=some (.pv (i64 (PG a u)),H):=by
 have hc:=tI a u
 have l0:∀ H,ya H false 1 (.pv (.rp [i64 a,i64 b,i64 c] 0))=some (.pv (i64 a)):=fun H=>rfl
 have l1:∀ H,place H 0 (.pv (.rp [i64 a,i64 b,i64 c] 0))=some (.pv (.rp [i64 a,i64 b,i64 c] 0)):=fun H=>rfl
 simp -implicitDefEqProofs only[SX,sevalprocAttr,Wg,l0,l1,hc]
def r0 (r:List Int):Int:=r.getD 0 0
def r1 (r:List Int):Int:=r.getD 1 0
def r2 (r:List Int):Int:=r.getD 2 0
theorem RX {r:List Int} (h:r.length=3):r=[r0 r,r1 r,r2 r]:=by
 match r,h with
 | [a,b,c],_=>rfl
section
variable {RW:PV} {D:List (List Int)} (hR:Th 3 RW (D.map dI)) (hD:∀ r∈D,r.length=3)
include hR hD
theorem Uy {i:Nat} (hi:i < D.length) (H:List ba):wa H 3 (.pv RW) (i:Int)=some (.pv (.rp [i64 (r0 D[i]),i64 (r1 D[i]),i64 (r2 D[i])] 0)):=by
 rw[hR.lit (i:=i) (by simpa using hi)]
 simp only[wa]
 have h3:=RX (hD _ (List.getElem_mem hi))
 rw[if_pos ⟨trivial,by unfold Ga;rw[List.length_map];omega⟩,Int.toNat_natCast,List.getElem?_map,List.getElem?_eq_getElem hi,Option.map_some,Option.map_some]
 congr 4
 show (dI D[i]).cells=_
 unfold dI
 generalize D[i]=r at *
 match r,h3 with
 |r,h3=>rw[h3];rfl
variable (hs:∀ i j (h:i < j) (hj:j < D.length),r0 D[i]≤r0 D[j]) (hlen:D.length≤32)
include hs hlen
theorem EW {H:List ba} (hH:cf H) (u:Int):∃ i:Nat,i≤D.length∧(∀ k (hk:k < D.length),k < i→r0 D[k] < u)∧(∀ k (hk:k < D.length),i≤k→u≤r0 D[k])∧
 og (Ca Yc 7) Sa [.pv RW,.pv (i64 u),.Gk 41 []] H=some (.pv (.oc [i64 i,.bool (if h:i < D.length then decide (r0 D[i]=u) else false)]),H):=by
 have lR:=hR.len
 rw[List.length_map] at lR
 have c41:Yc 41=some Wg:=rfl
 have r3:∀ H (x y z:PV),ya H true 3 (.pv (.rp [x,y,z] 0))=some (.pv (.agg [x,y,z])):=fun H x y z=>rfl
 have hcl:∀ n,AV.cut n deep (.Gk 41 [])=some (.Gk 41 []):=fun n=>rfl
 have hloop:=fun (E:Tr) (h0:E.get 0= .pv RW) (h1:E.get 1= .pv (i64 u)) (h2:E.get 2= .Gk 41 []) (h8:E.get 8= .pv (i64 D.length)) (h9:E.get 9= .pv (i64 0)) (h10:E.get 10= .pv (i64 D.length))=>
  YN (call:=Ca Yc 7) (b:=xb) (live:=[0,1,2,8,9,10]) (s:=⟨E,H⟩)
   (Q:=fun r=>∃ E' i,r=(.exit 0,⟨E',H⟩)∧Jc [0,1,2,8] E E'∧E'.get 9= .pv (i64 (i:Nat))∧i≤D.length∧(∀ k (hk:k < D.length),k < i→r0 D[k] < u)∧(∀ k (hk:k < D.length),i≤k→u≤r0 D[k]))
   (fun m t=>Jc [0,1,2,8] E t.env∧t.H=H∧∃ i j:Nat,t.env.get 9= .pv (i64 i)∧t.env.get 10= .pv (i64 j)∧i≤j∧j≤D.length∧m=j - i∧(∀ k (hk:k < D.length),k < i→r0 D[k] < u)∧(∀ k (hk:k < D.length),j≤k→u≤r0 D[k]))
   D.length (by unfold qa;omega)
   (Sf.all rfl (hH _ (Nat.le_refl _)) (Fit.cons h0 Ha (.cons h1 Ha (.cons h2 (hcl _) (.cons h8 Ha (.cons h9 Ha (.cons h10 Ha (.nil _ _))))))) fun E' hE=>⟨Jc.sub hE rfl,rfl,0,D.length,by rw[hE 9 (by simp),h9];rfl,by rw[hE 10 (by simp),h10],by omega,by omega,by omega,fun k _ h=>by omega,fun k hk h=>by omega⟩)
   (by
    rintro m ⟨E1,H1⟩ ⟨k1,k2,i,j,k9,k10,hij,hj,hm,ha,hb⟩
    simp only at k1 k2 k9 k10
    replace k2:=k2.symm
    subst k2
    by_cases hlt:i < j
    ·have e1:decide ((i:Int) < (j:Int))=true:=Ea (by omega)
     have g0:=(k1 0 (by simp)).trans h0
     have g1:=(k1 1 (by simp)).trans h1
     have g2:=(k1 2 (by simp)).trans h2
     obtain⟨h,hh⟩:∃ h,h=(i+j) / 2:=⟨_,rfl⟩
     have hhD:h < D.length:=by omega
     have a1:=Uy hR hD hhD
     have hc:=LJ (Ca Yc 6) (r0 D[h]) (r1 D[h]) (r2 D[h]) u H
     have w1:IntKind.i64.wrap ((i:Int)+(j:Int))=(i:Int)+j:=Ba (by omega)
     have w2:IntKind.u64.wrap ((i:Int)+(j:Int))=(i:Int)+j:=by
      unfold IntKind.wrap;simp[IntKind.signed,IntKind.bits];omega
     have w3:((i:Int)+(j:Int)).fdiv (2 ^ min 1 IntKind.u64.bits)=(h:Int):=by
      show ((i:Int)+(j:Int)).fdiv 2=_
      rw[Int.fdiv_eq_ediv_of_nonneg _ (by omega)];omega
     have w4:IntKind.i64.wrap (h:Int)=(h:Int):=Ba (by omega)
     have w5:IntKind.i64.wrap ((h:Int)+1)=((h+1:Nat):Int):=Hk (by omega)
     have z0:((1:Int) < 0)=False:=by simp
     generalize hQ:RQ _ _ _ _=Q
     by_cases hcu:r0 D[h] < u
     ·have hcm:PG (r0 D[h]) u= -1:=by unfold PG;rw[if_pos hcu]
      have z1:decide ((-1:Int) < 0)=true:=rfl
      rw[hcm] at hc
      simp -implicitDefEqProofs only[SX,sevalprocAttr,xb,k9,k10,e1,g0,g1,g2,a1,r3,w1,w2,w3,w4,w5,z0,c41,hc,z1]
      subst hQ
      rw[Ii]
      generalize hEE:(Tr.set _ 9 _:Tr)=E2
      have kk:Jc [0,1,2,8] E E2:=by
       rw[← hEE]
       repeat refine Jc.set ?_ rfl
       exact k1
      have z9:E2.get 9= .pv (i64 (h+1:Nat)):=by rw[← hEE];simp[Tr.aa]
      have z10:E2.get 10= .pv (i64 j):=by rw[← hEE];simp[Tr.aa,k10]
      exact Sf.all rfl (hH _ (Nat.le_refl _)) (Fit.sub (.cons z9 Ha (.cons z10 Ha (Fit.Te (l:=[0,1,2,8]) (.cons h0 Ha (.cons h1 Ha (.cons h2 (hcl _) (.cons h8 Ha (.nil _ _))))) kk))) rfl) fun E' hE=>⟨j - (h+1),by omega,kk.trans (Jc.sub hE rfl),rfl,h+1,j,by rw[hE 9 (by simp),z9],by rw[hE 10 (by simp),z10],by omega,hj,rfl,fun k hk hkh=>by
       rcases Nat.lt_or_ge k h with h5 | h5
       ·exact Int.lt_of_le_of_lt (hs k h h5 hhD) hcu
       ·obtain rfl:k=h:=by omega
        exact hcu,hb⟩
     ·have z1:decide (PG (r0 D[h]) u < 0)=false:=Fa (by unfold PG;rw[if_neg hcu];split <;> omega)
      simp -implicitDefEqProofs only[SX,sevalprocAttr,xb,k9,k10,e1,g0,g1,g2,a1,r3,w1,w2,w3,w4,w5,z0,c41,hc,z1]
      subst hQ
      rw[Ii]
      generalize hEE:(Tr.set _ 10 _:Tr)=E2
      have kk:Jc [0,1,2,8] E E2:=by
       rw[← hEE]
       repeat refine Jc.set ?_ rfl
       exact k1
      have z9:E2.get 9= .pv (i64 i):=by rw[← hEE];simp[Tr.aa,k9]
      have z10:E2.get 10= .pv (i64 h):=by rw[← hEE];simp[Tr.aa]
      exact Sf.all rfl (hH _ (Nat.le_refl _)) (Fit.sub (.cons z9 Ha (.cons z10 Ha (Fit.Te (l:=[0,1,2,8]) (.cons h0 Ha (.cons h1 Ha (.cons h2 (hcl _) (.cons h8 Ha (.nil _ _))))) kk))) rfl) fun E' hE=>⟨h - i,by omega,kk.trans (Jc.sub hE rfl),rfl,i,h,by rw[hE 9 (by simp),z9],by rw[hE 10 (by simp),z10],by omega,by omega,rfl,ha,fun k hk hkh=>by
       rcases Nat.lt_or_ge h k with h5 | h5
       ·exact Int.le_trans (Int.not_lt.1 hcu) (hs h k h5 hk)
       ·obtain rfl:k=h:=by omega
        omega⟩
    ·obtain rfl:i=j:=by omega
     have e1:decide ((i:Int) < (i:Int))=false:=Fa (by omega)
     generalize hQ:RQ _ _ _ _=Q
     simp -implicitDefEqProofs only[SX,sevalprocAttr,xb,k9,k10,e1]
     subst hQ
     exact⟨_,i,rfl,by repeat refine Jc.set ?_ rfl
                      exact k1,by simp[Tr.aa,k9],hj,ha,hb⟩)
 have key:Ld (fun r=>∃ i:Nat,i≤D.length∧(∀ k (hk:k < D.length),k < i→r0 D[k] < u)∧(∀ k (hk:k < D.length),i≤k→u≤r0 D[k])∧r=(.pv (.oc [i64 i,.bool (if h:i < D.length then decide (r0 D[i]=u) else false)]),H)) (og (Ca Yc 7) Sa [.pv RW,.pv (i64 u),.Gk 41 []] H):=by
  generalize hQ:(fun r:AV×List ba=>∃ i:Nat,_)=Q
  simp -implicitDefEqProofs only[SX,sevalprocAttr,Sa,lR]
  generalize hEE:(Tr.set _ 10 _:Tr)=E
  refine xa (hloop E (by rw[← hEE];simp[Tr.aa]) (by rw[← hEE];simp[Tr.aa]) (by rw[← hEE];simp[Tr.aa]) (by rw[← hEE];simp[Tr.aa]) (by rw[← hEE];simp[Tr.aa]) (by rw[← hEE];simp[Tr.aa])) ?_
  have h0:E.get 0= .pv RW:=by rw[← hEE];simp[Tr.aa]
  have h1:E.get 1= .pv (i64 u):=by rw[← hEE];simp[Tr.aa]
  have h2:E.get 2= .Gk 41 []:=by rw[← hEE];simp[Tr.aa]
  have h8:E.get 8= .pv (i64 D.length):=by rw[← hEE];simp[Tr.aa]
  rintro r ⟨_,E',i,rfl,k1,k9,hi,ha,hb⟩
  have g0:=(k1 0 (by simp)).trans h0
  have g1:=(k1 1 (by simp)).trans h1
  have g2:=(k1 2 (by simp)).trans h2
  have g8:=(k1 8 (by simp)).trans h8
  by_cases hlt:i < D.length
  ·have e1:decide ((i:Int) < (D.length:Int))=true:=Ea (by omega)
   have a1:=Uy hR hD hlt
   have hc:=LJ (Ca Yc 6) (r0 D[i]) (r1 D[i]) (r2 D[i]) u H
   have hge:=hb i hlt (Nat.le_refl _)
   have z:(PG (r0 D[i]) u==0)=decide (r0 D[i]=u):=by
    unfold PG
    rw[if_neg (by omega)]
    by_cases h5:r0 D[i] > u
    ·rw[if_pos h5,Fa (by omega)];rfl
    ·rw[if_neg h5,Ea (by omega)];rfl
   simp -implicitDefEqProofs only[SX,sevalprocAttr,k9,g0,g1,g2,g8,e1,a1,r3,c41,hc,z]
   subst hQ
   exact⟨i,hi,ha,hb,by rw[dif_pos hlt]⟩
  ·have e1:decide ((i:Int) < (D.length:Int))=false:=Fa (by omega)
   simp -implicitDefEqProofs only[SX,sevalprocAttr,k9,g0,g1,g2,g8,e1]
   subst hQ
   exact⟨i,hi,ha,hb,by rw[dif_neg hlt]⟩
 obtain⟨r,h1,i,h2,h3,h4,rfl⟩:=ec key
 exact⟨i,h2,h3,h4,h1⟩
end
theorem LO {ss:List mc} {r:List Int} (h:r∈Mi ss):∃ j,∃ hj:j < ss.length,r=jv ss[j] j:=by
 have:=(dq ss).mem_iff.1 h
 unfold Yh at this
 obtain⟨j,hj,rfl⟩:=List.mem_map.1 this
 have hj:=List.mem_range.1 hj
 exact⟨j,hj,by rw[List.getD_eq_getElem?_getD,List.getElem?_eq_getElem hj];rfl⟩
theorem TP {ss:List mc} {j:Nat} (hj:j < ss.length):jv ss[j] j∈Mi ss:=by
 refine (dq ss).mem_iff.2 ?_
 unfold Yh
 refine List.mem_map.2 ⟨j,List.mem_range.2 hj,?_⟩
 rw[List.getD_eq_getElem?_getD,List.getElem?_eq_getElem hj];rfl
theorem dH (ss:List mc) (i j:Nat) (h:i < j) (hj:j < (Mi ss).length):r0 (Mi ss)[i]≤r0 (Mi ss)[j]:=by
 obtain⟨h1,h2,h3⟩:=qy 3 0 (Yh ss ss.length).toArray
 have hj':j < (Yh ss ss.length).toArray.size:=by rw[← h1];simpa[Mi] using hj
 have h4:=h3 i j h hj'
 have key:∀ k (hk:k < (Mi ss).length),mw 3 0 (Zn 3 0 (Yh ss ss.length).toArray)[k]! =r0 (Mi ss)[k]:=by
  intro k hk
  have hk':k < (Zn 3 0 (Yh ss ss.length).toArray).size:=by simpa[Mi] using hk
  rw[getElem!_pos _ k hk']
  have e:(Zn 3 0 (Yh ss ss.length).toArray)[k]=(Mi ss)[k]:=by simp[Mi]
  have h3:=vA (List.getElem_mem hk)
  rw[e]
  generalize (Mi ss)[k]=r at *
  unfold mw r0
  rw[if_pos h3]
 rw[key i (by omega),key j hj] at h4
 omega
theorem IJ (ss:List mc):(Mi ss).Nodup:=by
 refine (dq ss).nodup_iff.2 ?_
 unfold Yh List.Nodup
 rw[List.pairwise_map]
 refine List.Pairwise.imp ?_ (List.nodup_range (n:=ss.length))
 intro i j h e
 unfold jv at e
 injection e with _ e
 injection e with _ e
 injection e with e _
 omega
def has (s:mc) (u:Int):Prop:=s.first≤u∧u < s.first+Qa s.parts
theorem pH {ss:List mc} (Aa:Ec ss) {i j:Nat} (hi:i < ss.length) (hj:j < ss.length) {u:Int} (h1:has ss[i] u) (h2:has ss[j] u):i=j:=by
 have hap:=Aa.apart
 rw[List.pairwise_iff_getElem] at hap
 have e1:=(Aa.Vu _ (List.getElem_mem hi)).yh
 have e2:=(Aa.Vu _ (List.getElem_mem hj)).yh
 unfold has at h1 h2
 rcases Nat.lt_trichotomy i j with h | h | h
 ·exact absurd (hap i j hi hj h u) (fun hn=>hn ⟨by omega,by omega⟩)
 ·exact h
 ·exact absurd (hap j i hj hi h u) (fun hn=>hn ⟨by omega,by omega⟩)
section
variable {T:PV} {ss:List mc} {l:List (List ef)} (hT:Iu T ss l) (Aa:Ec ss)
include hT Aa
theorem tS (u:Int):(∃ j,∃ hj:j < ss.length,has ss[j] u∧Ed [T,i64 u]=some (.oc [.agg [i64 ss[j].first,i64 (ss[j].first+Qa ss[j].parts - 1),i64 j],.bool true]))∨
 ((∀ s∈ss,¬has s u)∧Ed [T,i64 u]=some (.oc [.agg [i64 0,i64 0,i64 0],.bool false])):=by
 obtain⟨S',NX,DG,RW,rfl,_,_,_,hRW⟩:=hT.ex
 have hrp:=fK (a:=S') (b:=Yk l) (c:=NX) (d:=DG) (e:=RW) (f:=i64 (tj ss))
 have l4:=fun H=>(hrp H).2.2.1
 generalize ([S',Yk l,NX,DG,RW,i64 (tj ss)]:List PV)=R at *
 obtain⟨D,hRW,hDr,hDm,hDh,hDl,hDs,hnd⟩:∃ D:List (List Int),Th 3 RW (D.map dI)∧(∀ r∈D,r.length=3)∧(∀ r∈D,∃ j,∃ hj:j < ss.length,r=jv ss[j] j)∧(∀ j (hj:j < ss.length),jv ss[j] j∈D)∧D.length=ss.length∧(∀ i j (h:i < j) (hj:j < D.length),r0 D[i]≤r0 D[j])∧D.Nodup:=
  ⟨Mi ss,hRW,fun r hr=>vA hr,fun r hr=>LO hr,fun j hj=>TP hj,dG ss,dH ss,IJ ss⟩
 have h32:=Aa.len
 have hg:cf [ba.box [.pv (i64 0),.pv (i64 0),.pv (i64 0)]]:=fun n _ o ho=>by
  rw[List.mem_singleton] at ho;subst ho;exact yj n [i64 0,i64 0,i64 0]
 obtain⟨i,hi,ha,hb,hrun⟩:=EW hRW hDr hDs (by omega) hg u
 have c40:Yc 40=some Sa:=rfl
 have b0:∀ a b c d e f,La [ba.box [.pv a,.pv b,.pv c]] 3 (.ptr 0 0) (.pv (.agg [.int .i64 d,.int .i64 e,.int .i64 f]))=some [.box [.pv (i64 d),.pv (i64 e),.pv (i64 f)]]:=fun a b c d e f=>rfl
 have ld:∀ a b c,ya [ba.box [.pv a,.pv b,.pv c]] true 3 (.ptr 0 0)=some (.pv (.agg [a,b,c])):=fun a b c=>rfl
 have r3:∀ H (x y z:PV),ya H true 3 (.pv (.rp [x,y,z] 0))=some (.pv (.agg [x,y,z])):=fun H x y z=>rfl
 have r31:∀ H (x y z:PV),ya H false 1 (.pv (.rp [x,y,z] 1))=some (.pv y):=fun H x y z=>rfl
 have fin:∀ k (hk:k < D.length),(∀ m (hm:m < D.length),k < m→u < r0 D[m])→r0 D[k]≤u→
  ((u≤r1 D[k]→∃ j,∃ hj:j < ss.length,has ss[j] u∧PV.agg [i64 (r0 D[k]),i64 (r1 D[k]),i64 (r2 D[k])]= .agg [i64 ss[j].first,i64 (ss[j].first+Qa ss[j].parts - 1),i64 j])∧(¬ u≤r1 D[k]→∀ s∈ss,¬has s u)):=by
  intro k hk hgt hle
  obtain⟨j',hj',hr'⟩:=hDm _ (List.getElem_mem hk)
  constructor
  ·intro h1
   rw[hr'] at h1 hle ⊢
   refine⟨j',hj',⟨hle,?_⟩,rfl⟩
   have:u≤ss[j'].first+Qa ss[j'].parts - 1:=h1
   omega
  ·intro h1 s hs hh
   obtain⟨j,hj,rfl⟩:=List.getElem_of_mem hs
   obtain⟨m,hm,hmr⟩:=List.getElem_of_mem (hDh j hj)
   have hh':=hh
   unfold has at hh'
   have hp:=Ng (Aa.Vu _ (List.getElem_mem hj')).parts
   rcases Nat.lt_or_ge k m with h | h
   ·have:=hgt m hm h
    rw[hmr] at this
    have:u < ss[j].first:=this
    omega
   ·have h3:r0 D[m]≤r0 D[k]:=by
     rcases Nat.lt_or_ge m k with h5 | h5
     ·exact hDs m k h5 hk
     ·have:m=k:=by omega
      subst this;exact Int.le_refl _
    rw[hmr] at h3
    rw[hr'] at h3 hle h1
    have h3:ss[j].first≤ss[j'].first:=h3
    have hle:ss[j'].first≤u:=hle
    have e:j=j':=pH Aa hj hj' (u:=ss[j'].first) ⟨h3,by omega⟩ ⟨Int.le_refl _,by omega⟩
    subst e
    have:¬u≤ss[j].first+Qa ss[j].parts - 1:=h1
    omega
 have step:∀ (k:Nat) (hk:k < D.length),(∀ q (hq:q < D.length),k < q→u < r0 D[q])→r0 D[k]≤u→∀ R0:PV,
  (u≤r1 D[k]→R0= .oc [.agg [i64 (r0 D[k]),i64 (r1 D[k]),i64 (r2 D[k])],.bool true])→(¬ u≤r1 D[k]→R0= .oc [.agg [i64 0,i64 0,i64 0],.bool false])→
  (∃ j,∃ hj:j < ss.length,has ss[j] u∧R0= .oc [.agg [i64 ss[j].first,i64 (ss[j].first+Qa ss[j].parts - 1),i64 j],.bool true])∨((∀ s∈ss,¬has s u)∧R0= .oc [.agg [i64 0,i64 0,i64 0],.bool false]):=by
  intro k hk h1 h2 R0 h3 h4
  obtain⟨f1,f2⟩:=fin k hk h1 h2
  by_cases hc:u≤r1 D[k]
  ·obtain⟨j,hj,g1,g2⟩:=f1 hc
   exact .inl ⟨j,hj,g1,by rw[h3 hc,g2]⟩
  ·exact .inr ⟨f2 hc,h4 hc⟩
 suffices key:∃ R0,Ed [.rp R 0,i64 u]=some R0∧((∃ j,∃ hj:j < ss.length,has ss[j] u∧R0= .oc [.agg [i64 ss[j].first,i64 (ss[j].first+Qa ss[j].parts - 1),i64 j],.bool true])∨((∀ s∈ss,¬has s u)∧R0= .oc [.agg [i64 0,i64 0,i64 0],.bool false])) by
  obtain⟨R0,k1,⟨j,hj,k2,rfl⟩ | ⟨k2,rfl⟩⟩:=key
  ·exact .inl ⟨j,hj,k2,k1⟩
  ·exact .inr ⟨k2,k1⟩
 by_cases his:∃ h:i < D.length,r0 D[i]=u
 ·obtain⟨h,he⟩:=his
  rw[dif_pos h,Ea he] at hrun
  have hgt:∀ q (hq:q < D.length),i < q→u < r0 D[q]:=by
   intro q hq hiq
   have h3:=hDs i q hiq hq
   rcases Int.lt_or_le u (r0 D[q]) with h5 | h5
   ·exact h5
   ·exfalso
    obtain⟨j,hj,hr⟩:=hDm _ (List.getElem_mem h)
    obtain⟨j',hj',hr'⟩:=hDm _ (List.getElem_mem hq)
    have hp:=Ng (Aa.Vu _ (List.getElem_mem hj)).parts
    have hp':=Ng (Aa.Vu _ (List.getElem_mem hj')).parts
    have e1:ss[j].first=u:=by rw[hr] at he;exact he
    have e2:ss[j'].first≤u:=by rw[hr'] at h5;exact h5
    have e3:u≤ss[j'].first:=by rw[hr',he] at h3;exact h3
    have:j=j':=pH Aa hj hj' (u:=u) ⟨by omega,by omega⟩ ⟨by omega,by omega⟩
    subst this
    have:=(List.getElem_inj hnd).1 (hr.trans hr'.symm)
    omega
  have a1:=Uy hRW hDr h
  have z1:decide ((i:Int) < 0)=false:=Fa (by omega)
  refine⟨_,?_,step i h hgt (by omega) (if u≤r1 D[i] then .oc [.agg [i64 (r0 D[i]),i64 (r1 D[i]),i64 (r2 D[i])],.bool true] else .oc [.agg [i64 0,i64 0,i64 0],.bool false]) (fun h=>by rw[if_pos h]) (fun h=>by rw[if_neg h])⟩
  by_cases hc:u≤r1 D[i]
  ·have z2:decide (u > r1 D[i])=false:=Fa (by omega)
   rw[if_pos hc]
   simp -implicitDefEqProofs only[Ed,SX,sevalprocAttr,Tf,Hu,aW,l4,c40,hrun,z1,a1,z2,r31,r3,b0,ld]
  ·have z2:decide (u > r1 D[i])=true:=Ea (by omega)
   rw[if_neg hc]
   simp -implicitDefEqProofs only[Ed,SX,sevalprocAttr,Tf,Hu,aW,l4,c40,hrun,z1,a1,z2,r31,r3,b0,ld]
 ·have hf:(if h:i < D.length then decide (r0 D[i]=u) else false)=false:=by
   by_cases h:i < D.length
   ·rw[dif_pos h];exact Fa fun e=>his ⟨h,e⟩
   ·rw[dif_neg h]
  rw[hf] at hrun
  have w1:IntKind.i64.wrap ((i:Int) - 1)=(i:Int) - 1:=Ba (by omega)
  cases i with
  |zero=>
   have z1:decide ((-1:Int) < 0)=true:=rfl
   have w1:IntKind.i64.wrap (-1)= -1:=Ba (by decide)
   have hrun:og (Ca Yc 7) Sa [.pv RW,.pv (i64 u),.Gk 41 []] [.box [.pv (i64 0),.pv (i64 0),.pv (i64 0)]]=some (.pv (.oc [i64 0,.bool false]),[.box [.pv (i64 0),.pv (i64 0),.pv (i64 0)]]):=hrun
   refine⟨.oc [.agg [i64 0,i64 0,i64 0],.bool false],?_,.inr ⟨fun s hs hh=> ?_,rfl⟩⟩
   ·simp -implicitDefEqProofs only[Ed,SX,sevalprocAttr,Tf,Hu,aW,l4,c40,hrun,w1,z1,b0,ld]
   ·obtain⟨j,hj,rfl⟩:=List.getElem_of_mem hs
    obtain⟨m,hm,hmr⟩:=List.getElem_of_mem (hDh j hj)
    have h6:=hb m hm (Nat.zero_le _)
    have hne:r0 D[m]≠u:=by
     intro e
     have h7:=hb 0 (by omega) (Nat.le_refl _)
     have h8:r0 D[0]≤r0 D[m]:=by
      rcases Nat.eq_zero_or_pos m with h9 | h9
      ·subst h9;exact Int.le_refl _
      ·exact hDs 0 m h9 hm
     exact his ⟨by omega,by omega⟩
    rw[hmr] at h6 hne
    have h6:u≤ss[j].first:=h6
    have hne:ss[j].first≠u:=hne
    unfold has at hh;omega
  |succ i=>
   have h:i < D.length:=by omega
   have w2:((i+1:Nat):Int) - 1=(i:Int):=by omega
   rw[w2] at w1
   have z1:decide ((i:Int) < 0)=false:=Fa (by omega)
   have a1:=Uy hRW hDr h
   have hlt:=ha i h (by omega)
   have hgt:∀ q (hq:q < D.length),i < q→u < r0 D[q]:=by
    intro q hq hiq
    have h6:=hb q hq (by omega)
    rcases Int.lt_or_le u (r0 D[q]) with h5 | h5
    ·exact h5
    ·exfalso
     have h7:=hb (i+1) (by omega) (Nat.le_refl _)
     have h8:r0 D[i+1]≤r0 D[q]:=by
      rcases Nat.lt_or_ge (i+1) q with h9 | h9
      ·exact hDs (i+1) q h9 hq
      ·have:i+1=q:=by omega
       subst this;exact Int.le_refl _
     exact his ⟨by omega,by omega⟩
   refine⟨_,?_,step i h hgt (by omega) (if u≤r1 D[i] then .oc [.agg [i64 (r0 D[i]),i64 (r1 D[i]),i64 (r2 D[i])],.bool true] else .oc [.agg [i64 0,i64 0,i64 0],.bool false]) (fun h=>by rw[if_pos h]) (fun h=>by rw[if_neg h])⟩
   by_cases hc:u≤r1 D[i]
   ·have z2:decide (u > r1 D[i])=false:=Fa (by omega)
    rw[if_pos hc]
    simp -implicitDefEqProofs only[Ed,SX,sevalprocAttr,Tf,Hu,aW,l4,c40,hrun,w1,w2,z1,a1,z2,r31,r3,b0,ld]
   ·have z2:decide (u > r1 D[i])=true:=Ea (by omega)
    rw[if_neg hc]
    simp -implicitDefEqProofs only[Ed,SX,sevalprocAttr,Tf,Hu,aW,l4,c40,hrun,w1,w2,z1,a1,z2,r31,r3,b0,ld]
end
end Go.AM.B1
namespace Go.AM.B1
open Go.AM Go.AM.So
def aw (u:Int):List mc→Option (List Int)
 | []=>none
 |s::r=>if s.first≤u∧u < s.first+Qa s.parts then some (Ve s.parts (u - s.first)) else aw u r
theorem PC {u:Int}:∀ {ss:List mc} {b:List Int},(∀ s∈ss,ue s)→aw u ss=some b→∃ s∈ss,s.first≤u∧u < s.first+Qa s.parts∧b=Ve s.parts (u - s.first)∧By s b=some (u - s.first)∧(∀ x∈b,0≤x∧x≤255)∧b≠[]
 |s::r,b,h,he=>by
  rw[aw] at he
  split at he
  ·next hc=>
   injection he with he;subst he
   have hs:=h s (by simp)
   obtain⟨h1,h2,h3⟩:=Jq s.parts (u - s.first) 0 hs.parts (by omega) (by omega)
   refine⟨s,by simp,hc.1,hc.2,rfl,?_,h3,?_⟩
   ·unfold By;rw[if_pos h2,h1,Int.zero_add]
   ·intro h4;rw[h4] at h2;have:=hs.lo;simp at h2;omega
  ·obtain⟨s',h1,h2⟩:=PC (fun x hx=>h x (by simp[hx])) he
   exact⟨s',by simp[h1],h2⟩
abbrev wF (S:PV) (n i u:Int):Tr:=(((Tr.lf.set 12 (.pv (i64 i))).set 11 (.pv (i64 n))).set 10 (.pv S)).set 1 (.pv (i64 u))
def TL (o:Option (List Int)):PV:=match o with
 |some b=> .lit 1 (b.map (PV.int .u8))
 |none=> .fa
theorem AL {S:PV} {ss:List mc} {es:List PV} (hS:pb S ss es) (Aa:Ec ss) {u:Int} (hu:u≤9223372036854775807):Bj [.agg [S],i64 u]=some (TL (aw u ss)):=by
 have hS1:(AV.pv S).one=true:=by rcases hS.is with⟨h,_⟩ | h <;> rw[h] <;> rfl
 have lA:=hS.Tb
 have hm:=hS.sz
 have hloop:Ld (fun r=>∃ E H,(r=(.exit 0,⟨E,H⟩)∧aw u ss=none)∨(r=(.ret,⟨E,H⟩)∧E.get 4= .pv (TL (aw u ss))))
  (fb (ma (ta (Ca (fun _=>none) 8) oh) (ga 0 [1,10,11,12])) qa ⟨wF S ss.length 0 u,[]⟩):=by
  refine xa (yb (fun i t=>t=⟨wF S ss.length i u,[]⟩∧aw u ss=aw u (ss.drop i))
   ss.length (by unfold qa;unfold maxLen at hm;omega) _ ⟨rfl,rfl⟩ ?_ ?_) (fun r h=>h.2)
  ·rintro i t hi ⟨rfl,hs⟩
   obtain⟨P,ps,hP,a1⟩:=hS.Pd hi
   have hsk:=Aa.Vu _ (List.getElem_mem hi)
   have hur:=dM hP hsk (u - ss[i].first)
   have hP1:=hP.Dv.1
   have e1:decide ((i:Int) < (ss.length:Int))=true:=Ea (by omega)
   have t2:=Va hi hm
   have hdr:ss.drop i=ss[i]::ss.drop (i+1):=List.drop_eq_getElem_cons hi
   rw[hdr,aw] at hs
   have hf0:=hsk.f0
   generalize ss[i]=s at *
   have s1:La [.box [.pv .fa,.pv (i64 0)]] 2 (.ptr 0 0) (.pv (.agg [P,i64 s.first]))=some [.box [.pv P,.pv (i64 s.first)]]:=ik _ _ _ _ hP1 rfl [] _ rfl
   have p1:place [.box [.pv P,.pv (i64 s.first)]] 1 (.ptr 0 0)=some (.ptr 0 1):=rfl
   have l1:ya [.box [.pv P,.pv (i64 s.first)]] false 1 (.ptr 0 1)=some (.pv (i64 s.first)):=rfl
   have l2:ya [.box [.pv P,.pv (i64 s.first)]] true 2 (.ptr 0 0)=some (.pv (.agg [P,i64 s.first])):=rfl
   generalize hQ:LN _ _ i=QQ
   by_cases c1:u < s.first
   ·rw[if_neg (by omega)] at hs
    have d1:decide (u < s.first)=true:=Ea c1
    simp -implicitDefEqProofs only[SX,sevalprocAttr,oh,e1,t2,a1,Sc,s1,l2,p1,l1,d1,ga,za,AV.cut,oa,List.take_zero,pa,wF]
    subst hQ
    exact⟨rfl,hs⟩
   ·have d1:decide (u < s.first)=false:=Fa c1
    have t3:IntKind.i64.wrap (u - s.first)=u - s.first:=Ba (by omega)
    by_cases c2:u < s.first+Qa s.parts
    ·rw[if_pos ⟨by omega,c2⟩] at hs
     have hr:=hur.2 (by omega) (by omega)
     simp -implicitDefEqProofs only[SX,sevalprocAttr,oh,e1,t3,a1,Sc,s1,l2,p1,l1,d1,hr,wF]
     subst hQ
     exact⟨_,_,.inr ⟨rfl,by rw[hs];simp[Tr.aa,TL]⟩⟩
    ·rw[if_neg (by omega)] at hs
     have hr:=hur.1 (.inr (by omega))
     simp -implicitDefEqProofs only[SX,sevalprocAttr,oh,e1,t2,t3,a1,Sc,s1,l2,p1,l1,d1,hr,ga,za,AV.cut,oa,List.take_zero,pa,wF]
     subst hQ
     exact⟨rfl,hs⟩
  ·rintro t ⟨rfl,hs⟩
   rw[List.drop_length,aw] at hs
   have e1:decide ((ss.length:Int) < (ss.length:Int))=false:=Fa (by omega)
   generalize hQ:(fun r:Ex×St=>r.1.stop=true∧_)=Q
   simp -implicitDefEqProofs only[SX,sevalprocAttr,oh,e1,wF]
   subst hQ
   exact⟨rfl,_,_,.inl ⟨rfl,hs⟩⟩
 apply Rm
 have hen:(AV.pv (TL (aw u ss))).one=true:=by unfold TL;cases aw u ss <;> rfl
 simp -implicitDefEqProofs only[Bj,SX,sevalprocAttr,Ir,hS1,Wb,ab,lA,Cb,ga,za,AV.cut,oa,List.take_zero,pa]
 refine xa hloop ?_
 rintro r ⟨E,H,⟨rfl,hn⟩ | ⟨rfl,h4⟩⟩
 ·rw[hn]
  simp -implicitDefEqProofs only[SX,sevalprocAttr,TL]
 ·generalize TL (aw u ss)=v at *
  simp -implicitDefEqProofs only[SX,sevalprocAttr,h4]
end Go.AM.B1
namespace Go.AM.B1
open Go.AM Go.AM.So
theorem XM {u:Int}:∀ {ss:List mc},(∀ s∈ss,¬has s u)→aw u ss=none
 | [],_=>rfl
 |s::ss,h=>by
  have h1:=h s (by simp)
  unfold has at h1
  rw[aw,if_neg h1]
  exact XM fun x hx=>h x (by simp[hx])
theorem yW {u:Int} {ss:List mc} (Aa:Ec ss) {j:Nat} (hj:j < ss.length) (h:has ss[j] u):aw u ss=some (Ve ss[j].parts (u - ss[j].first)):=by
 have key:∀ (l:List mc) (j:Nat) (hj:j < l.length),(∀ i (hi:i < l.length),has l[i] u→i=j)→has l[j] u→aw u l=some (Ve l[j].parts (u - l[j].first)):=by
  intro l
  induction l with
  |nil=>intro j hj;simp at hj
  |cons s l ih=>
   intro j hj hone hh
   rw[aw]
   cases j with
   |zero=>rw[if_pos (show s.first≤u∧u < s.first+Qa s.parts from hh)];rfl
   |succ j=>
    rw[if_neg (fun hc:s.first≤u∧u < s.first+Qa s.parts=>by have:=hone 0 (by simp) hc;omega)]
    exact ih j (by simpa using hj) (fun i hi hx=>by have:=hone (i+1) (by simpa using hi) hx;omega) hh
 exact key ss j hj (fun i hi hx=>pH Aa hi hj hx h) h
section
variable {T:PV} {ss:List mc} {l:List (List ef)} (hT:Iu T ss l) (Aa:Ec ss)
include hT Aa
theorem sS (u:Int):Be [T,i64 u]=some (match aw u ss with | some b=> .oc [.lit 1 (b.map u8),.bool true] | none=> .oc [.fa,.bool false]):=by
 have hrow:=tS hT Aa u
 obtain⟨S',NX,DG,RW,rfl,_,_,hDG,_⟩:=hT.ex
 have hrp:=fK (a:=S') (b:=Yk l) (c:=NX) (d:=DG) (e:=RW) (f:=i64 (tj ss))
 have l3:=fun H=>(hrp H).2.1
 generalize ([S',Yk l,NX,DG,RW,i64 (tj ss)]:List PV)=R at *
 have st:∀ a b c,La [ba.box [.pv (i64 0),.pv (i64 0),.pv (i64 0)]] 3 (.ptr 0 0) (.pv (.agg [i64 a,i64 b,i64 c]))=some [.box [.pv (i64 a),.pv (i64 b),.pv (i64 c)]]:=fun a b c=>rfl
 rcases hrow with⟨j,hj,hh,hr⟩ | ⟨hn,hr⟩
 ·rw[yW Aa hj hh]
  have hs:=Aa.Vu _ (List.getElem_mem hj)
  have hh':=hh
  unfold has at hh'
  have hun:=cE hs (k:=u - ss[j].first) (by omega) (by omega)
  have hf0:=hs.f0
  have hl:=hs.yh
  have hl2:=hs.last
  have a1:∀ H,wa H 1 (.pv DG) (j:Int)=some (.pv (.rp [Ij ss[j].parts] 0)):=fun H=>by
   rw[hDG.lit (i:=j) (by simpa using hj)]
   simp only[wa]
   rw[if_pos ⟨trivial,by unfold Ga;rw[List.length_map];omega⟩,Int.toNat_natCast,List.getElem?_map,List.getElem?_eq_getElem hj];rfl
  generalize ss[j]=s at *
  have w1:IntKind.i64.wrap (u - s.first)=u - s.first:=Ba (by omega)
  have p0:∀ a b c d,place [ba.box [.pv a,.pv b,.pv c]] d (.ptr 0 0)=some (.ptr 0 (0+d)):=fun a b c d=>rfl
  have q2:∀ a b c,ya [ba.box [.pv a,.pv b,.pv c]] false 1 (.ptr 0 2)=some (.pv c):=fun a b c=>rfl
  have q0:∀ a b c,ya [ba.box [.pv a,.pv b,.pv c]] false 1 (.ptr 0 0)=some (.pv a):=fun a b c=>rfl
  simp -implicitDefEqProofs only[Be,SX,sevalprocAttr,qi,hr,st,aW,l3,p0,q2,q0,a1,ab,w1,hun]
 ·rw[XM hn]
  simp -implicitDefEqProofs only[Be,SX,sevalprocAttr,qi,hr,st]
end
end Go.AM.B1
