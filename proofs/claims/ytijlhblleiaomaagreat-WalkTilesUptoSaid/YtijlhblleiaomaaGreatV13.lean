/- What functions of the program compute. -/
import Derived.Test.YtijlhblleiaomaaGreatV12
import Derived.Test.YtijlhblleiaomaaGreatV3
import Derived.Test.YtijlhblleiaomaaGreatV4
import Derived.Test.YtijlhblleiaomaaGreatV11
set_option linter.unusedVariables false
set_option linter.unusedSimpArgs false
namespace Go.AM.B1
open Go.AM Go.AM.So
theorem yD (l:List Int) (n:Nat):(Hf l).all (AV.Je n deep)=true:=by
 rw[List.all_eq_true];intro x hx
 obtain⟨y,_,rfl⟩:=List.mem_map.1 hx
 rfl
theorem RT {V S':PV} {y:Bool} {a b:Int} (nl:Bool) (ds:List PV) (D:List (List Int)) (fl:Nat) (nr:Bool) (m:Int):
 Gg (Gx (.box [.pv V]) (.box [.pv (.bool y),.pv (i64 a),.pv (i64 b)]) (.tok 256 0 true) (.pv S') (.pv V) (.uq 3 true 256 []) nl ds D fl nr m):=by
 intro n hn o ho
 have hn:6≤n:=hn
 simp only[Gx,List.mem_cons,List.not_mem_nil,or_false] at ho
 rcases ho with rfl | rfl | rfl | rfl | rfl | rfl
 ·exact Aq n [V]
 ·exact Aq n [.bool y,i64 a,i64 b]
 ·simp only[na,Ra,Ma,ID (show 3 < n by omega),ID (show 4 < n by omega),dP (show 5 < n by omega),Option.bind_some,Option.map_some]
 ·rfl
 ·rfl
 ·simp only[na,yD,if_true]
theorem LS {V S':PV} {y:Bool} {a b m:Int} {nl:Bool} {ds:List PV} {D:List (List Int)} {fl k:Nat} {nr:Bool} (nx:Bool) (es:List PV):
 Gg (Uv (.box [.pv V]) (.box [.pv (.bool y),.pv (i64 a),.pv (i64 b)]) (.tok 1 k nl) (.seq 3 true (Hf D.flatten) fl nr) (.pv S') (.pv V) (.uq 4 nl 1 ds) (.own 5 k) (.pv (i64 m)) nx es):=by
 intro n hn o ho
 have hn:6≤n:=hn
 simp only[Uv,List.mem_cons,List.not_mem_nil,or_false] at ho
 rcases ho with rfl | rfl | rfl | rfl | rfl | rfl
 ·exact Aq n [V]
 ·exact Aq n [.bool y,i64 a,i64 b]
 ·simp only[na,Ra,Ma,ID (show 3 < n by omega),ID (show 4 < n by omega),dP (show 5 < n by omega),Option.bind_some,Option.map_some]
 ·rfl
 ·rfl
 ·simp only[na,yD,if_true]
theorem vU {V S':PV} {o0 o1:ba} {m:Int} {nl nr nx:Bool} {ds es:List PV} {D:List (List Int)} {fl k:Nat} (hk:D.length=k) (hD:∀ r∈D,r.length=3) (h1:nl=true→ds=[]) (h2:nr=true→D=[]) (h3:nx=true→es=[]):
 ∃ NX DG RW,dc (Uv o0 o1 (.tok 1 k nl) (.seq 3 true (Hf D.flatten) fl nr) (.pv S') (.pv V) (.uq 4 nl 1 ds) (.own 5 k) (.pv (i64 m)) nx es) 5 (.ptr 2 0)=some (.rp [S',V,NX,DG,RW,i64 m] 0)∧
  Vi 256 NX es∧Vi 1 DG ds∧Vi 3 RW (D.map KH):=by
 refine⟨if nx then .ma else .lit 256 es,if nl then .ma else .lit 1 ds,if nr then .ma else .lit 3 (D.map KH),?_,?_,?_,?_⟩
 ·have hc:k * 3=(Hf D.flatten).length∧(true||(3:Nat)==1)=true:=⟨by rw[List.length_map,Vw hD,hk],rfl⟩
  have hm:Ra (dc (Uv o0 o1 (.tok 1 k nl) (.seq 3 true (Hf D.flatten) fl nr) (.pv S') (.pv V) (.uq 4 nl 1 ds) (.own 5 k) (.pv (i64 m)) nx es) 3) (Hf D.flatten)=some (D.flatten.map i64):=by
   generalize Uv o0 o1 (.tok 1 k nl) (.seq 3 true (Hf D.flatten) fl nr) (.pv S') (.pv V) (.uq 4 nl 1 ds) (.own 5 k) (.pv (i64 m)) nx es=H
   generalize D.flatten=F
   induction F with
   |nil=>rfl
   |cons x F ih=>
    show Ra (dc H 3) (.pv (i64 x)::Hf F)=_
    rw[Ra,ih];rfl
  have hch:chunk 3 true k (D.flatten.map i64)=D.map KH:=by
   have:=TD (sz:=3) (D:=D.map fun r=>r.map i64) (by
    intro r hr
    obtain⟨q,hq,rfl⟩:=List.mem_map.1 hr
    rw[List.length_map,hD q hq])
   rw[List.length_map,List.map_map,←List.map_flatten,hk] at this
   exact this
  have h5:(Uv o0 o1 (.tok 1 k nl) (.seq 3 true (Hf D.flatten) fl nr) (.pv S') (.pv V) (.uq 4 nl 1 ds) (.own 5 k) (.pv (i64 m)) nx es)[5]? =some (.seq 3 true (Hf D.flatten) fl nr):=rfl
  have hb:(Uv o0 o1 (.tok 1 k nl) (.seq 3 true (Hf D.flatten) fl nr) (.pv S') (.pv V) (.uq 4 nl 1 ds) (.own 5 k) (.pv (i64 m)) nx es)[2]? =some (.box [.pv S',.pv V,.uq 3 nx 256 es,.uq 4 nl 1 ds,.own 5 k,.pv (i64 m)]):=rfl
  have ho:dc (Uv o0 o1 (.tok 1 k nl) (.seq 3 true (Hf D.flatten) fl nr) (.pv S') (.pv V) (.uq 4 nl 1 ds) (.own 5 k) (.pv (i64 m)) nx es) 4 (.own 5 k)=some (if nr then .ma else .lit 3 (D.map KH)):=by
   simp only[dc,h5,if_pos hc,hm,Option.map_some,hch]
   cases nr <;> rfl
  generalize Uv o0 o1 (.tok 1 k nl) (.seq 3 true (Hf D.flatten) fl nr) (.pv S') (.pv V) (.uq 4 nl 1 ds) (.own 5 k) (.pv (i64 m)) nx es=H at *
  show (match H[2]? with | some (.box cells)=>(Ra (dc H 4) cells).map fun ps=>PV.rp ps 0 | _=>none)=_
  rw[hb]
  have hv:∀ p:PV,dc H 4 (.pv p)=some p:=fun p=>rfl
  have hu:∀ id nl sz es,dc H 4 (.uq id nl sz es)=some (if nl then .ma else .lit sz es):=fun _ _ _ _=>rfl
  simp only[Ra,hv,hu,ho,Option.bind_some,Option.map_some]
 ·cases nx with
  |false=>exact .inr rfl
  |true=>exact .inl ⟨rfl,h3 rfl⟩
 ·cases nl with
  |false=>exact .inr rfl
  |true=>exact .inl ⟨rfl,h1 rfl⟩
 ·cases nr with
  |false=>exact .inr rfl
  |true=>exact .inl ⟨rfl,by rw[h2 rfl];rfl⟩
theorem MU {ss:List Lb} (h32:ss.length≤32) {H:List ba} {fl:Nat} {nr:Bool} (hH:H[5]? =some (.seq 3 true (Hf (Ki ss ss.length).flatten) fl nr)):
 rh Ar (fun _=>none) 8 34 [.own 5 ss.length,.Fk 36 []] H=some (.pv (.mc []),H.set 5 (.seq 3 true (Hf (sj ss).flatten) (ss.length * 3) nr)):=by
 have e34:∀ (d:Nat) args H,rh Ar (fun _=>none) (d+1) 34 args H=Zy 3 0 36 args H:=fun d args H=>rfl
 rw[e34 7]
 have hl:(Hf (Ki ss ss.length).flatten).length=ss.length * 3:=by rw[List.length_map,Vw fun r hr=>Xw hr,gq]
 simp only[Zy,hH]
 rw[if_pos ⟨trivial,trivial,hl.symm,by omega⟩,Ou,Option.map_some,hl]
 have:=pz (D:=Ki ss ss.length) fun r hr=>Xw hr
 rw[gq] at this
 rw[this];rfl
theorem RC {S:PV} {ss:List Lb} {es:List PV} (hS:eb S ss es) (Ba:Tb ss) (hpre:xg ss) {l:List (List ze)} (ha:sg ss=some l) {a b:Int} (hi:Ug [.agg [S]]=some (.mc [.agg [.bool true,i64 a,i64 b],i64 0])):
 ∃ T,Hb [.agg [S]]=some (.mc [T,i64 0])∧Bo T ss l:=by
 have hS1:(AV.pv S).one=true:=by rcases hS.is with⟨h,_⟩ | h <;> rw[h] <;> rfl
 have hb:=(yi hS).2.2.2 Ba hpre l ha
 obtain⟨S',hcp,hS'⟩:=ZE hS Ba
 have hS'1:(AV.pv S').one=true:=by rcases hS' with⟨h,_⟩ | h <;> rw[h] <;> rfl
 have lS:=hS.Vb
 obtain⟨k64,k256⟩:=aB ha
 have hst:=zD k64 k256
 have hV1:(AV.pv (qj l)).one=true:=rfl
 have hVl:Vi 1 (qj l) (l.map Wd):= .inr rfl
 have lV:=hVl.len
 rw[List.length_map] at lV
 have heo:=iE Ba hpre ha
 obtain⟨V,hVe⟩:∃ V,V=qj l:=⟨_,rfl⟩
 rw[← hVe] at hb hst hV1 hVl lV
 have st:Oa [.box [.pv .ma]] 1 (.ptr 0 0) (.pv (.agg [V]))=some [.box [.pv V]]:=by simp[Oa,AV.cells,PV.cells,hV1,oa]
 have st2:Oa [.box [.pv V],.box [.pv (.bool false),.pv (i64 0),.pv (i64 0)]] 3 (.ptr 1 0) (.pv (.agg [.bool true,i64 a,i64 b]))=some [.box [.pv V],.box [.pv (.bool true),.pv (i64 a),.pv (i64 b)]]:=rfl
 have p2:∀ a b c d,place [a,.box [b,c,d]] 0 (.ptr 1 0)=some (.ptr 1 0):=fun a b c d=>rfl
 have l2:∀ a b c d,xa [a,.box [b,c,d]] false 1 (.ptr 1 0)=some b:=fun a b c d=>rfl
 have l3:xa [.box [.pv V],.box [.pv (.bool true),.pv (i64 a),.pv (i64 b)]] true 1 (.ptr 0 0)=some (.pv (.agg [V])):=rfl
 have z0:((0:Int)==0)=true:=rfl
 have z1:((0:Int) != 0)=false:=rfl
 have m1:oa [AV.pv PV.ma,.pv .ma,.pv .ma,.pv .ma,.pv .ma,.pv (.int .i64 0)] 0 [AV.pv S']=[.pv S',.pv .ma,.pv .ma,.pv .ma,.pv .ma,.pv (.int .i64 0)]:=rfl
 have m2:oa [AV.pv S',.pv .ma,.pv .ma,.pv .ma,.pv .ma,.pv (.int .i64 0)] 1 [AV.pv V]=[.pv S',.pv V,.pv .ma,.pv .ma,.pv .ma,.pv (.int .i64 0)]:=rfl
 have m3:ve [AV.pv S',.pv V,.pv .ma,.pv .ma,.pv .ma,.pv (.int .i64 0)]=some [S',V,.ma,.ma,.ma,.int .i64 0]:=rfl
 have hz1:(0 < 256)=True:=by simp
 have hz2:(0 < 3)=True:=by simp
 have hz3:(0 < 1)=True:=by simp
 suffices key:Gd (fun r=>∃ T,r= .mc [T,i64 0]∧Bo T ss l) (Hb [.agg [S]]) by
  obtain⟨r,h1,T,rfl,h2⟩:=xc key
  exact⟨T,h1,h2⟩
 generalize hQ:(fun r=>∃ T,r=PV.mc [T,i64 0]∧_)=Q
 simp -implicitDefEqProofs only[Hb,QB.eq_1,SX,sevalprocAttr,xi,hS1,hV1,hS'1,zc,Ta,Nb,hb,hi,st,st2,p2,l2,l3,z0,z1,hcp,m1,m2,m3,qP,Be,hz1,hz2,hz3,lS]
 generalize hEE:(Tr.set _ 48 _:Tr)=E
 have q4:E.get 4= .ptr 0 0:=by rw[← hEE];simp[Tr.aa]
 have q8:E.get 8= .ptr 2 0:=by rw[← hEE];simp[Tr.aa]
 have q46:E.get 46= .pv S:=by rw[← hEE];simp[Tr.aa]
 have q47:E.get 47= .pv (i64 ss.length):=by rw[← hEE];simp[Tr.aa]
 have q48:E.get 48= .pv (i64 0):=by rw[← hEE];simp[Tr.aa]
 refine za (KV (call:=rh Ar (fun _=>none) 8) (RT (V:=V) (S':=S') (y:=true) (a:=a) (b:=b)) hS Ba q4 q8 q46 q47 q48) ?_
 rintro r ⟨_,E2,nl,nr,rfl,g4,g8,hnl,hnr⟩
 have hdl:(ss.map fun s=>Ni s.parts).length=ss.length:=by rw[List.length_map]
 have hrl:=gq ss ss.length
 have hDl:=sH ss
 have p5:∀ d,place (Gx (.box [.pv V]) (.box [.pv (.bool true),.pv (i64 a),.pv (i64 b)]) (.tok 256 0 true) (.pv S') (.pv V) (.uq 3 true 256 []) nl (ss.map fun s=>Ni s.parts) (Ki ss ss.length) 0 nr (Xe ss)) d (.ptr 2 0)=some (.ptr 2 (0+d)):=fun d=>ng rfl d 0
 have l5:xa (Gx (.box [.pv V]) (.box [.pv (.bool true),.pv (i64 a),.pv (i64 b)]) (.tok 256 0 true) (.pv S') (.pv V) (.uq 3 true 256 []) nl (ss.map fun s=>Ni s.parts) (Ki ss ss.length) 0 nr (Xe ss)) false 1 (.ptr 2 4)=some (.own 5 ss.length):=by
  rw[← hrl,gq]
  show some (AV.own 5 (Ki ss ss.length).length)=_
  rw[hrl]
 have hsort:=MU Ba.len (H:=Gx (.box [.pv V]) (.box [.pv (.bool true),.pv (i64 a),.pv (i64 b)]) (.tok 256 0 true) (.pv S') (.pv V) (.uq 3 true 256 []) nl (ss.map fun s=>Ni s.parts) (Ki ss ss.length) 0 nr (Xe ss)) rfl
 have hHT:(Gx (.box [.pv V]) (.box [.pv (.bool true),.pv (i64 a),.pv (i64 b)]) (.tok 256 0 true) (.pv S') (.pv V) (.uq 3 true 256 []) nl (ss.map fun s=>Ni s.parts) (Ki ss ss.length) 0 nr (Xe ss)).set 5 (.seq 3 true (Hf (sj ss).flatten) (ss.length * 3) nr)=Uv (.box [.pv V]) (.box [.pv (.bool true),.pv (i64 a),.pv (i64 b)]) (.tok 1 ss.length nl) (.seq 3 true (Hf (sj ss).flatten) (ss.length * 3) nr) (.pv S') (.pv V) (.uq 4 nl 1 (ss.map fun s=>Ni s.parts)) (.own 5 ss.length) (.pv (i64 (Xe ss))) true []:=by
  unfold Gx Uv
  rw[hdl,hrl];rfl
 rw[hHT] at hsort
 have p6:∀ d,place (Uv (.box [.pv V]) (.box [.pv (.bool true),.pv (i64 a),.pv (i64 b)]) (.tok 1 ss.length nl) (.seq 3 true (Hf (sj ss).flatten) (ss.length * 3) nr) (.pv S') (.pv V) (.uq 4 nl 1 (ss.map fun s=>Ni s.parts)) (.own 5 ss.length) (.pv (i64 (Xe ss))) true []) d (.ptr 0 0)=some (.ptr 0 (0+d)):=fun d=>ng rfl d 0
 have l6:xa (Uv (.box [.pv V]) (.box [.pv (.bool true),.pv (i64 a),.pv (i64 b)]) (.tok 1 ss.length nl) (.seq 3 true (Hf (sj ss).flatten) (ss.length * 3) nr) (.pv S') (.pv V) (.uq 4 nl 1 (ss.map fun s=>Ni s.parts)) (.own 5 ss.length) (.pv (i64 (Xe ss))) true []) false 1 (.ptr 0 0)=some (.pv V):=rfl
 have hnx:=fun (E3:Tr) (r8:E3.get 8= .ptr 2 0) (r101:E3.get 101= .pv V) (r102:E3.get 102= .pv (i64 l.length)) (r103:E3.get 103= .pv (i64 0))=>
  QV (call:=rh Ar (fun _=>none) 8) (LS (V:=V) (S':=S') (y:=true) (a:=a) (b:=b) (m:=Xe ss) (nl:=nl) (ds:=ss.map fun s=>Ni s.parts) (D:=sj ss) (fl:=ss.length * 3) (k:=ss.length) (nr:=nr)) hVl k64 k256 heo r8 r101 r102 r103
 obtain⟨NX,hNX⟩:∃ x,x=fun nx=>Uv (.box [.pv V]) (.box [.pv (.bool true),.pv (i64 a),.pv (i64 b)]) (.tok 1 ss.length nl) (.seq 3 true (Hf (sj ss).flatten) (ss.length * 3) nr) (.pv S') (.pv V) (.uq 4 nl 1 (ss.map fun s=>Ni s.parts)) (.own 5 ss.length) (.pv (i64 (Xe ss))) nx (l.map zn):=⟨_,rfl⟩
 have hnx':=hnx
 generalize Gx (.box [.pv V]) (.box [.pv (.bool true),.pv (i64 a),.pv (i64 b)]) (.tok 256 0 true) (.pv S') (.pv V) (.uq 3 true 256 []) nl (ss.map fun s=>Ni s.parts) (Ki ss ss.length) 0 nr (Xe ss)=HS at *
 simp -implicitDefEqProofs only[SX,sevalprocAttr,g4,g8,p5,l5,hsort,p6,l6,lV]
 generalize hEE3:(Tr.set _ 103 _:Tr)=E3
 refine za (hnx E3 (by rw[← hEE3];simp[Tr.aa,g8]) (by rw[← hEE3];simp[Tr.aa]) (by rw[← hEE3];simp[Tr.aa]) (by rw[← hEE3];simp[Tr.aa])) ?_
 rintro r ⟨_,E4,nx,rfl,r8,hx⟩
 obtain⟨NX,DG,RW,t1,t2,t3,t4⟩:=vU (V:=V) (S':=S') (o0:= .box [.pv V]) (o1:= .box [.pv (.bool true),.pv (i64 a),.pv (i64 b)]) (m:=Xe ss) (nl:=nl) (nr:=nr) (nx:=nx) (ds:=ss.map fun s=>Ni s.parts) (es:=l.map zn) (D:=sj ss) (fl:=ss.length * 3) (k:=ss.length) hDl (fun r hr=>gA hr) (fun h=>by rw[hnl h];rfl) (fun h=>by have:=hDl;rw[hnr h] at this ⊢;exact List.eq_nil_of_length_eq_zero this) (fun h=>by rw[hx h];rfl)
 generalize Uv (.box [.pv V]) (.box [.pv (.bool true),.pv (i64 a),.pv (i64 b)]) (.tok 1 ss.length nl) (.seq 3 true (Hf (sj ss).flatten) (ss.length * 3) nr) (.pv S') (.pv V) (.uq 4 nl 1 (ss.map fun s=>Ni s.parts)) (.own 5 ss.length) (.pv (i64 (Xe ss))) nx (l.map zn)=HT at *
 have hm1:DH [AV.ptr 2 0,.pv (.int .i64 0)]= .mc [.ptr 2 0,.pv (.int .i64 0)]:=rfl
 have htp:dc HT 6 (.mc [.ptr 2 0,.pv (.int .i64 0)])=some (.mc [.rp [S',V,NX,DG,RW,i64 (Xe ss)] 0,i64 0]):=by
  show (Ra (dc HT 5) [AV.ptr 2 0,.pv (.int .i64 0)]).map PV.mc=_
  have hv:dc HT 5 (.pv (.int .i64 0))=some (.int .i64 0):=rfl
  simp only[Ra,t1,hv,Option.bind_some,Option.map_some]
 simp -implicitDefEqProofs only[SX,sevalprocAttr,r8,RE,hm1,htp]
 subst hQ
 exact⟨_,rfl,⟨S',NX,DG,RW,by rw[hVe],hS',t2,t3,t4⟩⟩
theorem fq {S:PV} {ss:List Lb} {es:List PV} (hS:eb S ss es):∃ T n,Hb [.agg [S]]=some (.mc [T,i64 n])∧(n≠0→T= .Sg)∧
 (¬ Tb ss→n=84)∧(Tb ss→¬xg ss→n=110)∧(Tb ss→xg ss→¬Vk ss→n=111)∧(Tb ss→xg ss→Vk ss→sg ss=none→n=130)∧
 (∀ l,Tb ss→xg ss→Vk ss→sg ss=some l→n=0∧Bo T ss l):=by
 have hb:=yi hS
 by_cases h1:Tb ss
 ·by_cases h2:xg ss
  ·obtain⟨y,a,b,hi,hy⟩:=RN hS h1
   by_cases h3:Vk ss
   ·have:=hy.2 h3
    subst this
    cases h4:sg ss with
    |none=>
     have:=sB hS (n:=130) (V:= .ma) rfl (.inr rfl) (.inl rfl) (hb.2.2.1 h1 h2 h4) hi
     exact⟨.Sg,130,this,fun _=>rfl,fun h=>absurd h1 h,fun _ h=>absurd h2 h,fun _ _ h=>absurd h3 h,fun _ _ _ _=>rfl,fun l _ _ _ h=>(by cases h)⟩
    |some l=>
     obtain⟨T,t1,t2⟩:=RC hS h1 h2 h4 hi
     refine⟨T,0,t1,fun h=>absurd rfl h,fun h=>absurd h1 h,fun _ h=>absurd h2 h,fun _ _ h=>absurd h3 h,fun _ _ _ h=>(by cases h),fun l' _ _ _ h=> ?_⟩
     injection h with h
     exact⟨rfl,h ▸ t2⟩
   ·have hyf:y=false:=by cases y with | false=>rfl | true=>exact absurd (hy.1 rfl) h3
    subst hyf
    have key:∃ n V,(AV.pv V).one=true∧(n=0∨n=130)∧Cc [.agg [S]]=some (.mc [.agg [V],i64 n]):=by
     cases h4:sg ss with
     |none=>exact⟨130,.ma,rfl,.inr rfl,hb.2.2.1 h1 h2 h4⟩
     |some l=>exact⟨0,qj l,rfl,.inl rfl,hb.2.2.2 h1 h2 l h4⟩
    obtain⟨n,V,k1,k2,k3⟩:=key
    have:=sB hS k1 k2 (.inr rfl) k3 hi
    exact⟨.Sg,111,this,fun _=>rfl,fun h=>absurd h1 h,fun _ h=>absurd h2 h,fun _ _ _=>rfl,fun _ _ h=>absurd h h3,fun l _ _ h=>absurd h h3⟩
  ·have:=FB hS (n:=110) (V:= .ma) rfl (by decide) (by decide) (hb.2.1 h1 h2)
   exact⟨.Sg,110,this,fun _=>rfl,fun h=>absurd h1 h,fun _ _=>rfl,fun _ h=>absurd h h2,fun _ h=>absurd h h2,fun l _ h=>absurd h h2⟩
 ·have:=FB hS (n:=84) (V:= .ma) rfl (by decide) (by decide) (hb.1 h1)
  exact⟨.Sg,84,this,fun _=>rfl,fun _=>rfl,fun h=>absurd h h1,fun h=>absurd h h1,fun h=>absurd h h1,fun l h=>absurd h h1⟩
theorem JR {S:PV} {ss:List Lb} {es:List PV} (hS:eb S ss es):∃ T n,Hb [.agg [S]]=some (.mc [T,i64 n])∧
 ((n≠0∧T= .Sg)∨(n=0∧Tb ss∧xg ss∧Vk ss∧∃ l,sg ss=some l∧Bo T ss l∧∀ e∈l,Ej e)):=by
 obtain⟨T,n,hc,hn,h1,h2,h3,h4,h5⟩:=fq hS
 refine⟨T,n,hc,?_⟩
 by_cases h0:n=0
 ·refine .inr ⟨h0,?_⟩
  by_cases k1:Tb ss
  ·by_cases k2:xg ss
   ·by_cases k3:Vk ss
    ·cases k4:sg ss with
     |none=>have:=h4 k1 k2 k3 k4;omega
     |some l=>exact⟨k1,k2,k3,l,rfl,(h5 l k1 k2 k3 k4).2,iE k1 k2 k4⟩
    ·have:=h3 k1 k2 k3;omega
   ·have:=h2 k1 k2;omega
  ·have:=h1 k1;omega
 ·exact .inl ⟨h0,hn h0⟩
end Go.AM.B1
namespace Go.AM.B1
open Go.AM Go.AM.So
theorem mE {p q:Lb} (op:Dd p) (oq:Dd q) (hle:p.parts.length≤q.parts.length):Te p q=true↔∀ k (h1:k < p.parts.length) (h2:k < q.parts.length),∃ x,x < 256∧wi p.parts[k] x=true∧wi q.parts[k] x=true:=by
 have key:∀ (m i:Nat),i+m=p.parts.length→((Zb p.parts q.parts m i).isSome=true↔∀ k,i≤k→(h1:k < p.parts.length)→(h2:k < q.parts.length)→∃ x,x < 256∧wi p.parts[k] x=true∧wi q.parts[k] x=true):=by
  intro m
  induction m with
  |zero=>intro i hi;exact⟨fun _ k hk h1=>by omega,fun _=>rfl⟩
  |succ m ih=>
   intro i hi
   have h1:i < p.parts.length:=by omega
   have h2:i < q.parts.length:=by omega
   have hm:=qy h1 h2 (op.parts _ (List.getElem_mem h1)).2 (oq.parts _ (List.getElem_mem h2)).2
   have hI:=ih (i+1) (by omega)
   rw[Zb]
   cases hmt:Gp p.parts q.parts i with
   |nil=>
    constructor
    ·intro h;cases h
    ·intro h;exact absurd hmt (hm.2 (h i (Nat.le_refl _) h1 h2))
   |cons a r=>
    simp only[Option.isSome_map]
    rw[hI]
    constructor
    ·intro h k hk g1 g2
     rcases Nat.lt_or_ge i k with h3 | h3
     ·exact h k h3 g1 g2
     ·have:k=i:=by omega
      subst this
      exact hm.1 (by rw[hmt];simp)
    ·intro h k hk;exact h k (by omega)
 have:=key p.parts.length 0 (by omega)
 unfold Te
 rw[this]
 exact⟨fun h k h1 h2=>h k (by omega) h1 h2,fun h k _ h1 h2=>h k h1 h2⟩
theorem lE {p q:Lb} (op:Dd p) (oq:Dd q) (h:p.parts.length=q.parts.length):Te p q=Te q p:=by
 rw[Bool.eq_iff_iff,mE op oq (by omega),mE oq op (by omega)]
 constructor
 ·intro k i h1 h2;obtain⟨x,a,b,c⟩:=k i h2 h1;exact⟨x,a,c,b⟩
 ·intro k i h1 h2;obtain⟨x,a,b,c⟩:=k i h2 h1;exact⟨x,a,c,b⟩
def nD (ss:List Lb) (i j:Nat):Prop:=(hi:i < ss.length)→(hj:j < ss.length)→j < i→ss[i].parts.length=ss[j].parts.length→Te ss[i] ss[j]=false
theorem LG {ss:List Lb} (Ba:Tb ss):Vk ss↔∀ i j,nD ss i j:=by
 constructor
 ·intro h i j hi hj hlt he
  rw[lE (Ba.Xo _ (List.getElem_mem hi)) (Ba.Xo _ (List.getElem_mem hj)) he]
  exact h j i hj hi hlt he.symm
 ·intro h i j hi hj hlt he
  rw[lE (Ba.Xo _ (List.getElem_mem hi)) (Ba.Xo _ (List.getElem_mem hj)) he]
  exact h j i hj hi hlt he.symm
section
variable {S:PV} {ss:List Lb} {es:List PV} (hS:eb S ss es) (Ba:Tb ss)
include hS Ba
theorem MH (call:Wa) {i:Nat} (hi:i < ss.length) {E:Tr} (h1:E.get 1= .pv (.rp [S] 0)) (h4:E.get 4= .pv (i64 i)) (h5:E.get 5= .pv (i64 0)):
 Gd (fun r=>r.1.stop=true∧((∃ E',r=(.exit 2,⟨E',[]⟩)∧Td [1,4] E E'∧∀ j,nD ss i j)∨∃ E',r=(.ret,⟨E',[]⟩)∧E'.get 2= .pv (.bool false)∧E'.get 3= .pv (i64 0)∧¬Vk ss))
  (ua call (.loop [1,4,5] xd) ⟨E,[]⟩):=by
 have h32:=Ba.len
 have ln:=hS.Vb
 obtain⟨P,ps,hP,a1⟩:=hS.sd hi
 have okp:=Ba.Xo _ (List.getElem_mem hi)
 have lP:=hP.parts.Vb
 refine Qn (fun j t=>Td [1,4] E t.env∧t.env.get 5= .pv (i64 j)∧t.H=[]∧∀ j',j' < j→nD ss i j') i (by unfold qa;omega)
  (Tg.all rfl (by simp) (Fit.cons h1 Ma (.cons h4 Ma (.cons h5 Ma (.nil _ _)))) fun E' hE=>⟨Td.sub hE rfl,by rw[hE 5 (by simp),h5];rfl,rfl,fun j h=>by omega⟩) ?_ ?_
 ·rintro j ⟨E1,H1⟩ hj ⟨k1,k5,k3,hs⟩
  simp only at k1 k5 k3
  subst k3
  have hjl:j < ss.length:=by omega
  have g1:=(k1 1 (by simp)).trans h1
  have g4:=(k1 4 (by simp)).trans h4
  obtain⟨Q,qs,hQ,a2⟩:=hS.sd hjl
  have okq:=Ba.Xo _ (List.getElem_mem hjl)
  have hcm:=fun (h:ss[i].parts.length≤ss[j].parts.length)=>Cw hP hQ okp okq (n:=ss[i].parts.length) (Nat.le_refl _) h
  have lQ:=hQ.parts.Vb
  have hat:∀ b,(ss[i].parts.length=ss[j].parts.length→Te ss[i] ss[j]=b)→b=false→∀ j',j' < j+1→nD ss i j':=by
   intro b hb hb0 j' hj'
   rcases Nat.lt_or_ge j' j with h3 | h3
   ·exact hs j' h3
   ·have:j'=j:=by omega
    subst this
    intro _ _ _ he
    rw[hb he,hb0]
  have hbad:ss[i].parts.length=ss[j].parts.length→Te ss[i] ss[j]=true→¬Vk ss:=fun he hm h=>by
   have:=(LG Ba).1 h i j hi hjl hj he
   rw[hm] at this;cases this
  unfold Te at hat hbad
  generalize ss[i]=p at *
  generalize ss[j]=q at *
  have e1:decide ((j:Int) < (i:Int))=true:=Fa (by omega)
  have t2:IntKind.i64.wrap ((j:Int)+1)=((j+1:Nat):Int):=ym (by omega)
  have fin:(∀ j',j' < j+1→nD ss i j')→∀ E2:Tr,Td [1,4] E E2→E2.get 5= .pv (i64 (j+1:Nat))→Tg ([]:List ba).length [1,4,5] (fun t=>Td [1,4] E t.env∧t.env.get 5= .pv (i64 (j+1:Nat))∧t.H=[]∧∀ j',j' < j+1→nD ss i j') ⟨E2,[]⟩:=fun hn E2 kk z5=>
   Tg.all rfl (by simp) (Fit.sub (.cons z5 Ma (Fit.Je (l:=[1,4]) (.cons h1 Ma (.cons h4 Ma (.nil _ _))) kk)) rfl) fun E' hE=>⟨kk.trans (Td.sub hE rfl),by rw[hE 5 (by simp),z5],rfl,hn⟩
  generalize hQQ:RQ _ _ _ _=QQ
  by_cases c1:p.parts.length=q.parts.length
  ·have d1:((p.parts.length:Int)==(q.parts.length:Int))=true:=by rw[c1];simp
   obtain⟨v,hv⟩:=hcm (by omega)
   cases hb:(Zb p.parts q.parts p.parts.length 0).isSome with
   |true=>
    rw[hb] at hv
    simp -implicitDefEqProofs only[SX,sevalprocAttr,xd,g1,g4,k5,e1,Nb,Ta,Fc,Bd,oc,a1,a2,lP,lQ,d1,hv]
    subst hQQ
    exact .inr ⟨_,rfl,by simp[Tr.aa],by simp[Tr.aa],hbad c1 hb⟩
   |false=>
    rw[hb] at hv
    simp -implicitDefEqProofs only[SX,sevalprocAttr,xd,g1,g4,k5,e1,t2,Nb,Ta,Fc,Bd,oc,a1,a2,lP,lQ,d1,hv]
    subst hQQ
    rw[Xl]
    generalize hEE:(Tr.set _ 5 _:Tr)=E2
    refine fin (hat false (fun _=>hb) rfl) E2 (by rw[← hEE];(repeat refine Td.set ?_ rfl);exact k1) (by rw[← hEE];simp[Tr.aa])
  ·have d1:((p.parts.length:Int)==(q.parts.length:Int))=false:=beq_false_of_ne (by omega)
   simp -implicitDefEqProofs only[SX,sevalprocAttr,xd,g1,g4,k5,e1,t2,Nb,Ta,Fc,Bd,oc,a1,a2,lP,lQ,d1]
   subst hQQ
   rw[Xl]
   generalize hEE:(Tr.set _ 5 _:Tr)=E2
   refine fin (hat false (fun h=>absurd h c1) rfl) E2 (by rw[← hEE];(repeat refine Td.set ?_ rfl);exact k1) (by rw[← hEE];simp[Tr.aa])
 ·rintro⟨E1,H1⟩ ⟨k1,k5,k3,hs⟩
  simp only at k1 k5 k3
  subst k3
  have g4:=(k1 4 (by simp)).trans h4
  have e1:decide ((i:Int) < (i:Int))=false:=Ga (by omega)
  generalize hQ:(fun r:Ex×St=>r.1.stop=true∧_)=QQ
  simp -implicitDefEqProofs only[SX,sevalprocAttr,xd,g4,k5,e1]
  subst hQ
  refine⟨rfl,.inl ⟨_,rfl,?_,fun j a b c=>hs j c a b c⟩⟩
  repeat refine Td.set ?_ rfl
  exact k1
theorem Ey:∃ b,Ge [.agg [S]]=some (.mc [.bool b,i64 0])∧(b=true↔Vk ss):=by
 have ln:=hS.Vb
 have hS1:(AV.pv S).one=true:=by rcases hS.is with⟨h,_⟩ | h <;> rw[h] <;> rfl
 obtain⟨b,hb,hbb⟩:=fw hS
 have:=hbb.2 Ba
 subst this
 have h32:=Ba.len
 have hloop:=fun (E:Tr) (h1:E.get 1= .pv (.rp [S] 0)) (h4:E.get 4= .pv (i64 0))=>
  Qn (call:=Ea (fun _=>none) 8) (b:=ig) (live:=[1,4]) (s:=⟨E,[]⟩) (Q:=fun r=>(∃ E',r=(.exit 0,⟨E',[]⟩)∧Vk ss)∨∃ E',r=(.ret,⟨E',[]⟩)∧E'.get 2= .pv (.bool false)∧E'.get 3= .pv (i64 0)∧¬Vk ss)
   (fun i t=>Td [1] E t.env∧t.env.get 4= .pv (i64 i)∧t.H=[]∧∀ i',i' < i→∀ j,nD ss i' j) ss.length (by unfold qa;omega)
   (Tg.all rfl (by simp) (Fit.cons h1 Ma (.cons h4 Ma (.nil _ _))) fun E' hE=>⟨Td.sub hE rfl,by rw[hE 4 (by simp),h4];rfl,rfl,fun i h=>by omega⟩)
   (by
    rintro i ⟨E1,H1⟩ hi ⟨k1,k4,k3,hs⟩
    simp only at k1 k4 k3
    subst k3
    have g1:=(k1 1 (by simp)).trans h1
    have e1:decide ((i:Int) < (ss.length:Int))=true:=Fa (by omega)
    have t2:=Ua hi (by unfold maxLen;omega)
    generalize hQQ:RQ _ _ _ _=QQ
    simp -implicitDefEqProofs only[SX,sevalprocAttr,ig,g1,k4,ln,e1,Nb,Ta]
    generalize hEE:(Tr.set _ 5 _:Tr)=E2
    have z1:E2.get 1= .pv (.rp [S] 0):=by rw[← hEE];simp[Tr.aa,g1]
    have z4:E2.get 4= .pv (i64 i):=by rw[← hEE];simp[Tr.aa,k4]
    refine za (MH hS Ba _ hi z1 z4 (by rw[← hEE];simp[Tr.aa])) ?_
    rintro _ ⟨_,⟨E3,rfl,k6,hp⟩ | ⟨E3,rfl,g2,g3,hp⟩⟩
    ·have y4:=(k6 4 (by simp)).trans z4
     simp -implicitDefEqProofs only[SX,sevalprocAttr,y4,t2]
     subst hQQ
     rw[Xl]
     generalize hE4:(Tr.set _ 4 _:Tr)=E4
     have y1:E4.get 1= .pv (.rp [S] 0):=by rw[← hE4];simp[Tr.aa];exact (k6 1 (by simp)).trans z1
     have y4:E4.get 4= .pv (i64 (i+1:Nat)):=by rw[← hE4];simp[Tr.aa]
     exact Tg.all rfl (by simp) (Fit.cons y1 Ma (.cons y4 Ma (.nil _ _))) fun E' hE=>⟨fun t ht=>by
      rw[List.mem_singleton] at ht;subst ht
      rw[hE 1 (by simp),y1,h1],by rw[hE 4 (by simp),y4],rfl,fun i' hi' j=>by
      rcases Nat.lt_or_ge i' i with h3 | h3
      ·exact hs i' h3 j
      ·have:i'=i:=by omega
       subst this;exact hp j⟩
    ·simp -implicitDefEqProofs only[SX,sevalprocAttr]
     subst hQQ
     exact .inr ⟨_,rfl,g2,g3,hp⟩)
   (by
    rintro⟨E1,H1⟩ ⟨k1,k4,k3,hs⟩
    simp only at k1 k4 k3
    subst k3
    have g1:=(k1 1 (by simp)).trans h1
    have e1:decide ((ss.length:Int) < (ss.length:Int))=false:=Ga (by omega)
    generalize hQ:(fun r:Ex×St=>r.1.stop=true∧_)=QQ
    simp -implicitDefEqProofs only[SX,sevalprocAttr,ig,g1,k4,ln,e1,Nb,Ta]
    subst hQ
    exact⟨rfl,.inl ⟨_,rfl,(LG Ba).2 fun i j hi hj=>hs i hi j hi hj⟩⟩)
 have key:Gd (fun r=>∃ b,r=PV.mc [.bool b,i64 0]∧(b=true↔Vk ss)) (Ge [.agg [S]]):=by
  generalize hQQ:(fun r:PV=>_)=QQ
  simp -implicitDefEqProofs only[Ge,SX,sevalprocAttr,pj,hS1,Nb,Ta,zc,hb]
  generalize hEE:(Tr.set _ 4 _:Tr)=E
  refine za (hloop E (by rw[← hEE];simp[Tr.aa]) (by rw[← hEE];simp[Tr.aa])) ?_
  rintro _ ⟨_,⟨E',rfl,hp⟩ | ⟨E',rfl,g2,g3,hp⟩⟩
  ·simp -implicitDefEqProofs only[SX,sevalprocAttr]
   subst hQQ
   exact⟨true,rfl,by simpa using hp⟩
  ·simp -implicitDefEqProofs only[SX,sevalprocAttr,g2,g3]
   subst hQQ
   exact⟨false,rfl,by simpa using hp⟩
 obtain⟨r,h1,b,rfl,hb⟩:=xc key
 exact⟨b,h1,hb⟩
end
theorem fH {S V:PV} {ss:List Lb} {es:List PV} (hS:eb S ss es) {m:Int} (hV:(AV.pv V).one=true) (hm:m=84∨m=110) (hb:Za [.agg [S]]=some (.mc [.agg [V],i64 m])):Zc [.agg [S]]=some (.mc [.agg [.ma],i64 m]):=by
 have hS1:(AV.pv S).one=true:=by rcases hS.is with⟨h,_⟩ | h <;> rw[h] <;> rfl
 have s1:Oa [.box [.pv .ma],.box [.pv .ma]] 1 (.ptr 1 0) (.pv (.agg [V]))=some [.box [.pv .ma],.box [.pv V]]:=by simp[Oa,AV.cells,PV.cells,hV,oa]
 have s0:Oa [.box [.pv .ma],.box [.pv V]] 1 (.ptr 0 0) (.pv (.agg [.ma]))=some [.box [.pv .ma],.box [.pv V]]:=rfl
 have ld:xa [.box [.pv .ma],.box [.pv V]] true 1 (.ptr 0 0)=some (.pv (.agg [.ma])):=rfl
 have z1:((84:Int)==84)=true:=rfl
 have z2:((110:Int)==84)=false:=rfl
 have z3:((110:Int)==110)=true:=rfl
 rcases hm with rfl | rfl <;>
 simp -implicitDefEqProofs only[Zc,SX,sevalprocAttr,Kg,hS1,zc,hb,s1,s0,ld,z1,z2,z3]
theorem zx {S V:PV} {ss:List Lb} {es:List PV} (hS:eb S ss es) {m:Int} {b:Bool} (hV:(AV.pv V).one=true) (h1:m≠84) (h2:m≠110) (hb:Za [.agg [S]]=some (.mc [.agg [V],i64 m])) (hi:Ge [.agg [S]]=some (.mc [.bool b,i64 0])):
 Zc [.agg [S]]=some (.mc [.agg [if b then V else .ma],i64 (if b then m else 111)]):=by
 have hS1:(AV.pv S).one=true:=by rcases hS.is with⟨h,_⟩ | h <;> rw[h] <;> rfl
 have s1:Oa [.box [.pv .ma],.box [.pv .ma]] 1 (.ptr 1 0) (.pv (.agg [V]))=some [.box [.pv .ma],.box [.pv V]]:=by simp[Oa,AV.cells,PV.cells,hV,oa]
 have s0:Oa [.box [.pv .ma],.box [.pv V]] 1 (.ptr 0 0) (.pv (.agg [.ma]))=some [.box [.pv .ma],.box [.pv V]]:=rfl
 have s2:Oa [.box [.pv .ma],.box [.pv V]] 1 (.ptr 0 0) (.pv (.agg [V]))=some [.box [.pv V],.box [.pv V]]:=by simp[Oa,AV.cells,PV.cells,hV,oa]
 have ld:∀ W:PV,xa [.box [.pv W],.box [.pv V]] true 1 (.ptr 0 0)=some (.pv (.agg [W])):=fun W=>rfl
 have ld1:xa [.box [.pv .ma],.box [.pv V]] true 1 (.ptr 1 0)=some (.pv (.agg [V])):=rfl
 have z1:(m==84)=false:=beq_false_of_ne h1
 have z2:(m==110)=false:=beq_false_of_ne h2
 cases b <;>
 simp -implicitDefEqProofs only[Zc,SX,sevalprocAttr,Kg,hS1,zc,hb,hi,s1,s0,s2,ld,ld1,z1,z2]
theorem PH (ss:List Lb):∃ n V,(∀ (S:PV) (es:List PV),eb S ss es→Zc [.agg [S]]=some (.mc [.agg [V],i64 n]))∧(n=0→∃ l,sg ss=some l∧V=qj l)∧(AV.pv V).one=true∧
 (∀ (S:PV) (es:List PV),eb S ss es→∃ T,Hb [.agg [S]]=some (.mc [T,i64 n])∧((n≠0∧T= .Sg)∨(n=0∧Tb ss∧xg ss∧Vk ss∧∃ l,sg ss=some l∧Bo T ss l∧∀ e∈l,Ej e))):=by
 obtain⟨VB,lB,m,hVB,_,_,hb1,hb2⟩:=ON ss
 have hval:∀ (S:PV) (es:List PV) (V':PV) (m':Int),eb S ss es→Cc [.agg [S]]=some (.mc [.agg [V'],i64 m'])→Za [.agg [S]]=some (.mc [.agg [V'],i64 m']):=by
  intro S es V' m' hS h
  rw[hb2 S es hS,←hb1 S es hS,h]
 have Pf:∀ n:Int,(∀ (S:PV) (es:List PV),eb S ss es→∀ T k,Hb [.agg [S]]=some (.mc [T,i64 k])→k=n)→∀ (S:PV) (es:List PV),eb S ss es→∃ T,Hb [.agg [S]]=some (.mc [T,i64 n])∧((n≠0∧T= .Sg)∨(n=0∧Tb ss∧xg ss∧Vk ss∧∃ l,sg ss=some l∧Bo T ss l∧∀ e∈l,Ej e)):=by
  intro n hn S es hS
  obtain⟨T,k,h1,h2⟩:=JR hS
  obtain rfl:=hn S es hS T k h1
  exact⟨T,h1,h2⟩
 have same:∀ {S:PV} {T T':PV} {k k':Int},Hb [.agg [S]]=some (.mc [T,i64 k])→Hb [.agg [S]]=some (.mc [T',i64 k'])→k=k':=by
  intro S T T' k k' h1 h2
  rw[h1] at h2
  injection h2 with h2
  injection h2 with h2
  injection h2 with _ h2
  injection h2 with h2 _
  injection h2
 have aut:sg ss=none∨∃ l,sg ss=some l:=by
  cases sg ss with
  |none=>exact .inl rfl
  |some l=>exact .inr ⟨l,rfl⟩
 have one:∀ {l:List (List ze)},(AV.pv (qj l)).one=true:=fun {l}=>rfl
 by_cases h1:Tb ss
 ·by_cases h2:xg ss
  ·by_cases h3:Vk ss
   ·rcases aut with h4 | ⟨l,h4⟩
    ·skip
     refine⟨130,.ma,fun S es hS=> ?_,fun h=>(by cases h),rfl,Pf 130 fun S es hS T k hk=> ?_⟩
     ·obtain⟨b,i1,i2⟩:=Ey hS h1
      have:=i2.2 h3
      subst this
      exact zx hS rfl (by decide) (by decide) (hval S es _ _ hS ((yi hS).2.2.1 h1 h2 h4)) i1
     ·obtain⟨T',n,t1,_,_,_,_,t2,_⟩:=fq hS
      have:=t2 h1 h2 h3 h4
      subst this
      exact same hk t1
    ·skip
     refine⟨0,qj l,fun S es hS=> ?_,fun _=>⟨l,h4,rfl⟩,one,Pf 0 fun S es hS T k hk=> ?_⟩
     ·obtain⟨b,i1,i2⟩:=Ey hS h1
      have:=i2.2 h3
      subst this
      exact zx hS one (by decide) (by decide) (hval S es _ _ hS ((yi hS).2.2.2 h1 h2 l h4)) i1
     ·obtain⟨T',n,t1,_,_,_,_,_,t2⟩:=fq hS
      have:=(t2 l h1 h2 h3 h4).1
      subst this
      exact same hk t1
   ·refine⟨111,.ma,fun S es hS=> ?_,fun h=>(by cases h),rfl,Pf 111 fun S es hS T k hk=> ?_⟩
    ·obtain⟨b,i1,i2⟩:=Ey hS h1
     have hb:b=false:=by cases b with | false=>rfl | true=>exact absurd (i2.1 rfl) h3
     subst hb
     cases h4:sg ss with
     |none=>exact zx hS (V:= .ma) rfl (by decide) (by decide) (hval S es _ _ hS ((yi hS).2.2.1 h1 h2 h4)) i1
     |some l=>exact zx hS one (by decide) (by decide) (hval S es _ _ hS ((yi hS).2.2.2 h1 h2 l h4)) i1
    ·obtain⟨T',n,t1,_,_,_,t2,_⟩:=fq hS
     have:=t2 h1 h2 h3
     subst this
     exact same hk t1
  ·refine⟨110,.ma,fun S es hS=>fH hS (V:= .ma) rfl (.inr rfl) (hval S es _ _ hS ((yi hS).2.1 h1 h2)),fun h=>(by cases h),rfl,Pf 110 fun S es hS T k hk=> ?_⟩
   obtain⟨T',n,t1,_,_,t2,_⟩:=fq hS
   have:=t2 h1 h2
   subst this
   exact same hk t1
 ·refine⟨84,.ma,fun S es hS=>fH hS (V:= .ma) rfl (.inl rfl) (hval S es _ _ hS ((yi hS).1 h1)),fun h=>(by cases h),rfl,Pf 84 fun S es hS T k hk=> ?_⟩
  obtain⟨T',n,t1,_,t2,_⟩:=fq hS
  have:=t2 h1
  subst this
  exact same hk t1
end Go.AM.B1
namespace Go.AM.B1
open Go.AM Go.AM.So
def ZI (ls:List (List (Int×Int))) (i:Nat):List PV:=(List.range 258).map fun k=>GH ls (i * 258+k)
theorem NG (H:List ba) (d o:Nat) (row:List PV):place H d (.pv (.rp row o))=some (.pv (.rp row (o+d))):=rfl
theorem NZ (H:List ba) (o n:Nat) (row:List PV):place H (n * 1) (.pv (.rp row o))=some (.pv (.rp row (o+n))):=by rw[Nat.mul_one];rfl
theorem JG {ls:List (List (Int×Int))} {i:Nat} (hi:i < ls.length) (H:List ba):wa H 258 (.pv (.lit 258 ((List.range ls.length).map (zI ls)))) (i:Int)=some (.pv (.rp (ZI ls i) 0)):=by
 simp only[wa]
 rw[if_pos ⟨trivial,by unfold Ia;simp;omega⟩,Int.toNat_natCast,List.getElem?_map,List.getElem?_range hi];rfl
theorem OC {ls:List (List (Int×Int))} {i k:Nat} (hk:k < 258) (H:List ba):xa H false 1 (.pv (.rp (ZI ls i) k))=some (.pv (GH ls (i * 258+k))):=by
 have:(ZI ls i)[k]? =some (GH ls (i * 258+k)):=by rw[ZI,List.getElem?_map,List.getElem?_range hk];rfl
 simp only[xa,Hl,Bool.false_eq_true,if_false,this];rfl
theorem tY {ls:List (List (Int×Int))} {i:Nat} (H:List ba):xa H false 1 (.pv (.rp (ZI ls i) 0))=some (.pv (qp (ls.getD i []))):=by
 rw[OC (by omega),GH,if_pos (by omega),show (i * 258+0) / 258=i by omega]
theorem pU {ls:List (List (Int×Int))} {i:Nat} (H:List ba):xa H false 1 (.pv (.rp (ZI ls i) 257))=some (.pv (i64 (Ha (ls.drop (i+1))))):=by
 rw[OC (by omega),GH,if_neg (by omega),if_pos (by omega),show (i * 258+257) / 258=i by omega]
theorem IY {ls:List (List (Int×Int))} {i y:Nat} (hy:y < 256) (H:List ba):xa H false 1 (.pv (.rp (ZI ls i) (1+y)))=some (.pv (Tu (ls.getD i []) y)):=by
 rw[OC (by omega),GH,if_neg (by omega),if_neg (by omega),show (i * 258+(1+y)) / 258=i by omega,show (i * 258+(1+y)) % 258 - 1=y by omega]
theorem GO {ls:List (List (Int×Int))} {i:Nat} (hi:i < ls.length):ls.getD i []=ls[i]:=by rw[List.getD_eq_getElem?_getD,List.getElem?_eq_getElem hi];rfl
abbrev MK (C B:PV) (n i k:Int):Tr:=((((Tr.lf.set 22 (.pv (i64 i))).set 21 (.pv (i64 n))).set 6 (.pv (i64 k))).set 1 (.pv B)).set 0 (.pv (.rp [C] 0))
theorem LI {s:Lb} {B:PV} {bs:List Int} (hB:Wi B bs) (Ba:Dd s):
 (∀ k,Lf s bs=some k→mf [Ni s.parts,B]=some (.mc [i64 k,.bool true]))∧(Lf s bs=none→mf [Ni s.parts,B]=some (.mc [i64 0,.bool false])):=by
 have lB:=hB.Vb
 have h8:=Ba.hi
 have hpr:=Ba.prod.2
 have hia:=fun {i:Nat} (hi:i < s.parts.length)=>JG (ls:=s.parts) hi
 have hcl:((List.range s.parts.length).map (zI s.parts)).length=s.parts.length:=by simp
 have hdg:Ni s.parts= .rp [.lit 258 ((List.range s.parts.length).map (zI s.parts))] 0:=rfl
 rw[hdg]
 generalize (List.range s.parts.length).map (zI s.parts)=C at *
 by_cases hlen:bs.length=s.parts.length
 ·have hrk:Lf s bs=fh s.parts bs 0:=by unfold Lf;rw[if_pos hlen]
  have hloop:Gd (fun r=>∃ E,(r=(.ret,⟨E,[]⟩)∧E.get 4= .pv (i64 0)∧E.get 5= .pv (.bool false)∧fh s.parts bs 0=none)∨(∃ k,r=(.exit 0,⟨E,[]⟩)∧E.get 6= .pv (i64 k)∧fh s.parts bs 0=some k))
   (ab (ga (ua (Ea (fun _=>none) 8) Sd) (fa 0 [0,1,6,21,22])) qa ⟨MK (.lit 258 C) B s.parts.length 0 0,[]⟩):=by
   refine za (wb (g:=ga (ua (Ea (fun _=>none) 8) Sd) (fa 0 [0,1,6,21,22]))
    (fun i t=>∃ k,t=⟨MK (.lit 258 C) B s.parts.length i k,[]⟩∧0≤k∧k+Ha (s.parts.drop i)≤Ha s.parts∧fh s.parts bs 0=fh (s.parts.drop i) (bs.drop i) k)
    s.parts.length (by unfold qa;omega) _ ⟨0,rfl,by omega,by simp,rfl⟩ ?_ ?_) (fun r h=>h.2)
   ·rintro i t hi ⟨k,rfl,hk0,hk1,hs⟩
    have hpo:=Ba.parts s.parts[i] (List.getElem_mem hi)
    have hib:i < bs.length:=by omega
    have a3:=hB.sd hib
    have hbr:=hB.HC bs[i] (List.getElem_mem hib)
    have hd:s.parts.drop i=s.parts[i]::s.parts.drop (i+1):=List.drop_eq_getElem_cons hi
    have hdb:bs.drop i=bs[i]::bs.drop (i+1):=List.drop_eq_getElem_cons hib
    have hrb:=Oo (x:=bs[i]) (n:=0) hpo.2
    rw[hd,Ha] at hk1
    rw[hd,hdb,fh] at hs
    have hle:=Rk Ba.parts (i+1)
    have hpos:=sf (ls:=s.parts.drop (i+1)) fun x hx=>Ba.parts x (List.mem_of_mem_drop hx)
    have hsz:=Ah hpo
    have a1:=hia hi
    have a4:=pU (ls:=s.parts) (i:=i)
    have a5:=IY (ls:=s.parts) (i:=i) (y:=(bs[i]).toNat) (by omega)
    rw[GO hi] at a5
    generalize ZI s.parts i=R at *
    generalize s.parts[i]=l at *
    generalize bs[i]=x at *
    have hwp:Tu l x.toNat= .int .u16 (if (xf x 0 l).2 then (xf x 0 l).1+1 else 0):=by unfold Tu;rw[Int.toNat_of_nonneg hbr.1]
    rw[hwp] at a5
    have e1:decide ((i:Int) < (s.parts.length:Int))=true:=Fa (by omega)
    have t2:=Ua hi (by unfold maxLen;omega)
    have hidx:(0≤x∧x < ((256:Nat):Int))=True:=eq_true (by omega)
    obtain⟨⟨d,is⟩,hrk2⟩:∃ r,r=xf x 0 l:=⟨_,rfl⟩
    rw[← hrk2] at hs hrb a5
    generalize hQ:LN _ _ i=Q
    cases is with
    |false=>
     simp only[Bool.false_eq_true,if_false] at hs a5
     have t3:IntKind.i64.wrap 0=0:=rfl
     have z1:((0:Int)==0)=true:=rfl
     simp -implicitDefEqProofs only[SX,sevalprocAttr,Sd,e1,a1,a3,a5,NG,NZ,Ta,hidx,t3,z1,MK]
     subst hQ
     exact⟨_,.inl ⟨rfl,by simp[Tr.aa],by simp[Tr.aa],hs⟩⟩
    |true=>
     simp only[if_true] at hs a5
     have hb2:=hrb rfl
     simp only at hb2
     have hmul:d * Ha (s.parts.drop (i+1))+Ha (s.parts.drop (i+1))≤Ha (s.parts.drop (i+1)) * Ac 0 l:=by
      have h1:(d+1) * Ha (s.parts.drop (i+1))≤Ac 0 l * Ha (s.parts.drop (i+1)):=Int.mul_le_mul_of_nonneg_right (by omega) (by omega)
      rw[Int.add_mul,Int.one_mul,Int.mul_comm (Ac 0 l)] at h1
      exact h1
     have hm0:0≤d * Ha (s.parts.drop (i+1)):=Int.mul_nonneg (by omega) (by omega)
     have t3:IntKind.i64.wrap (d+1)=d+1:=Ca (by omega)
     have t6:IntKind.i64.wrap (d+1 - 1)=d:=by rw[show d+1 - 1=d by omega];exact Ca (by omega)
     have z1:((d+1:Int)==0)=false:=by simp;omega
     have t4:IntKind.i64.wrap (d * Ha (s.parts.drop (i+1)))=d * Ha (s.parts.drop (i+1)):=Ca (by omega)
     have t5:IntKind.i64.wrap (k+d * Ha (s.parts.drop (i+1)))=k+d * Ha (s.parts.drop (i+1)):=Ca (by omega)
     simp -implicitDefEqProofs only[SX,sevalprocAttr,Sd,e1,t2,t3,t4,t5,t6,z1,a1,a3,a4,a5,NG,NZ,Ta,hidx,fa,Aa,AV.cut,pa,MK]
     subst hQ
     exact⟨_,rfl,by omega,by omega,hs⟩
   ·rintro t ⟨k,rfl,hk0,hk1,hs⟩
    rw[List.drop_length,Hq] at hs
    have e1:decide ((s.parts.length:Int) < (s.parts.length:Int))=false:=Ga (by omega)
    generalize hQ:(fun r:Ex×St=>r.1.stop=true∧_)=Q
    simp -implicitDefEqProofs only[SX,sevalprocAttr,Sd,e1,MK]
    subst hQ
    exact⟨rfl,_,.inr ⟨k,rfl,by simp[Tr.aa],hs⟩⟩
  obtain⟨r,h1,E,h2⟩:=xc hloop
  have h1':ab (ga (ua (Ea (fun _=>none) 8) Sd) (fa 0 [0,1,6,21,22])) qa ⟨((((Tr.lf.set 22 (.pv (.int .i64 0))).set 21 (.pv (i64 s.parts.length))).set 6 (.pv (.int .i64 0))).set 1 (.pv B)).set 0 (.pv (.rp [.lit 258 C] 0)),[]⟩=some r:=h1
  have d1:((bs.length:Int) != (s.parts.length:Int))=false:=by rw[hlen];simp
  rw[hrk]
  rcases h2 with⟨rfl,h4,h5,hn⟩ | ⟨k,rfl,h6,hk⟩
  ·refine⟨fun k hk=>by (rw[hn] at hk;cases hk),fun _=> ?_⟩
   simp -implicitDefEqProofs only[mf,SX,sevalprocAttr,lh,xb,NG,Ta,lB,hcl,d1,fa,Aa,AV.cut,pa,h1',h4,h5]
  ·refine⟨fun k' hk'=> ?_,fun hn=>by (rw[hk] at hn;cases hn)⟩
   obtain rfl:k=k':=Option.some.inj (hk.symm.trans hk')
   simp -implicitDefEqProofs only[mf,SX,sevalprocAttr,lh,xb,NG,Ta,lB,hcl,d1,fa,Aa,AV.cut,pa,h1',h6]
 ·have d1:((bs.length:Int) != (s.parts.length:Int))=true:=by
   have:(bs.length:Int)≠(s.parts.length:Int):=by omega
   simp[this]
  have hrk:Lf s bs=none:=by unfold Lf;rw[if_neg hlen]
  refine⟨fun k hk=>by (rw[hrk] at hk;cases hk),fun _=> ?_⟩
  simp -implicitDefEqProofs only[mf,SX,sevalprocAttr,lh,NG,Ta,lB,hcl,d1]
theorem IV {l:List (Int×Int)} (h:Xc l) {k x:Int} (h0:0≤k) (h1:k < Ac 0 l) (hx:eI k l=some x):(Ek l)[k.toNat]? =some x:=by
 obtain⟨y,q1,_,_,_,q5⟩:=On h.2 h0 h1
 rw[hx] at q1;injection q1 with q1;subst q1
 have hr:=q5 0
 obtain⟨m,e1,e2⟩:=bn (n:=0) h.2 (by rw[hr])
 rw[hr] at e2
 simp only at e2
 rw[show k.toNat=m by omega];exact e1
abbrev ZN (C:PV) (n i k:Int) (es:List PV):Tr:=((((Tr.lf.set 19 (.pv (i64 i))).set 18 (.pv (i64 n))).set 5 (.uq 0 false 1 es)).set 1 (.pv (i64 k))).set 0 (.pv (.rp [C] 0))
theorem bF {s:Lb} (Ba:Dd s) {k:Int} (h0:0≤k) (h1:k < Ha s.parts):Xj [Ni s.parts,i64 k]=some (.lit 1 ((Vd s.parts k).map (PV.int .u8))):=by
 have h8:=Ba.hi
 have hpr:=Ba.prod.2
 have hia:=fun {i:Nat} (hi:i < s.parts.length)=>JG (ls:=s.parts) hi
 have hcl:((List.range s.parts.length).map (zI s.parts)).length=s.parts.length:=by simp
 have hdg:Ni s.parts= .rp [.lit 258 ((List.range s.parts.length).map (zI s.parts))] 0:=rfl
 rw[hdg]
 generalize (List.range s.parts.length).map (zI s.parts)=C at *
 have hloop:Gd (fun r=>∃ E H,r=(.exit 0,⟨E,H⟩)∧E.get 5= .uq 0 false 1 ((Vd s.parts k).map (PV.int .u8)))
  (ab (ga (ua (Ea (fun _=>none) 8) Ef) (fa 1 [0,1,5,18,19])) qa ⟨ZN (.lit 258 C) s.parts.length 0 k [],[.tok 1 0 false]⟩):=by
  refine za (wb (fun i t=>∃ j es,t=⟨ZN (.lit 258 C) s.parts.length i j (es.map (PV.int .u8)),[.tok 1 i false]⟩∧0≤j∧j < Ha (s.parts.drop i)∧es.length=i∧Vd s.parts k=es++Vd (s.parts.drop i) j)
   s.parts.length (by unfold qa;omega) _ ⟨k,[],rfl,h0,h1,rfl,rfl⟩ ?_ ?_) (fun r h=>h.2)
  ·rintro i t hi ⟨j,es,rfl,hj0,hj1,hel,hs⟩
   have hpo:=Ba.parts s.parts[i] (List.getElem_mem hi)
   have hd:s.parts.drop i=s.parts[i]::s.parts.drop (i+1):=List.drop_eq_getElem_cons hi
   rw[hd,Ha] at hj1
   rw[hd,Vd] at hs
   have hpos:=sf (ls:=s.parts.drop (i+1)) fun x hx=>Ba.parts x (List.mem_of_mem_drop hx)
   have hle:=Rk Ba.parts (i+1)
   have hdv:=iN hj0 hpos hj1
   obtain⟨x,q3,q4,q5,_⟩:=On hpo.2 hdv.1 hdv.2.1
   rw[q3,Option.getD_some] at hs
   have hm:=IV hpo hdv.1 hdv.2.1 q3
   have hml:=getElem?_lt hm
   have hle2:=Rk Ba.parts i
   rw[hd,Ha] at hle2
   have t3:IntKind.i64.wrap (j.tdiv (Ha (s.parts.drop (i+1))))=j.tdiv (Ha (s.parts.drop (i+1))):=Ca (by
    have:=hdv.2.2.2.2
    have h5:j.tdiv (Ha (s.parts.drop (i+1))) * 1≤j.tdiv (Ha (s.parts.drop (i+1))) * Ha (s.parts.drop (i+1)):=Int.mul_le_mul_of_nonneg_left hpos hdv.1
    omega)
   have a1:=hia hi
   have a4:=pU (ls:=s.parts) (i:=i)
   have a5:=tY (ls:=s.parts) (i:=i)
   rw[GO hi] at a5
   generalize ZI s.parts i=R at *
   generalize s.parts[i]=l at *
   have a6:∀ H,wa H 1 (.pv (qp l)) (j.tdiv (Ha (s.parts.drop (i+1))))=some (.pv (.rp [.int .u8 x] 0)):=fun H=>by
    simp only[wa,qp]
    rw[if_pos ⟨trivial,by unfold Ia;rw[List.length_map];omega⟩,List.getElem?_map,hm];rfl
   have e1:decide ((i:Int) < (s.parts.length:Int))=true:=Fa (by omega)
   have t2:=Ua hi (by unfold maxLen;omega)
   have z0:(Ha (s.parts.drop (i+1))=0)=False:=by simp;omega
   have hap:=Wo (A:=[.tok 1 i false]) (id:=0) (n:=i) (h:= .uq) (nl:=false) (bytes:=1) (es:=es.map (PV.int .u8)) rfl (by simp[hel]) (by unfold qb;omega) (.int .u8 x)
   rw[List.set_cons_zero] at hap
   have hbm:(es++[x]).map (PV.int .u8)=es.map (PV.int .u8)++[.int .u8 x]:=by simp
   generalize hpq:Ha (s.parts.drop (i+1))=pr at *
   generalize hQ:LN _ _ i=QQ
   simp -implicitDefEqProofs only[SP,WP,oa,sevalprocAttr,Ef,e1,t2,t3,z0,a1,a4,a5,a6,NG,Ta,hap,fa,Aa,AV.cut,na,pa,ZN]
   subst hQ
   exact⟨_,es++[x],by rw[hbm],hdv.2.2.1,by rw[hpq];exact hdv.2.2.2.1,by simp[hel],by rw[hs];simp⟩
  ·rintro t ⟨j,es,rfl,hj0,hj1,hel,hs⟩
   rw[List.drop_length,Vd,List.append_nil] at hs
   have e1:decide ((s.parts.length:Int) < (s.parts.length:Int))=false:=Ga (by omega)
   generalize hQ:(fun r:Ex×St=>r.1.stop=true∧_)=Q
   simp -implicitDefEqProofs only[SX,sevalprocAttr,Ef,e1,ZN]
   subst hQ
   exact⟨rfl,_,_,rfl,by rw[hs];simp[Tr.aa]⟩
 obtain⟨r,g1,E,H,rfl,g6⟩:=xc hloop
 have g1':ab (ga (ua (Ea (fun _=>none) 8) Ef) (fa 1 [0,1,5,18,19])) qa ⟨((((Tr.lf.set 19 (.pv (.int .i64 0))).set 18 (.pv (i64 s.parts.length))).set 5 (.uq 0 false 1 [])).set 1 (.pv (i64 k))).set 0 (.pv (.rp [.lit 258 C] 0)),[.tok 1 0 false]⟩=some (.exit 0,⟨E,H⟩):=g1
 have e4:qb s.parts.length 1:=by unfold qb;omega
 have e2:(0≤(s.parts.length:Int))=True:=by simp
 have e5:((0:Int)≤0)=True:=by simp
 simp -implicitDefEqProofs only[Xj,SX,sevalprocAttr,yn,NG,Ta,hcl,eq_true e4,e2,e5,xb,fa,Aa,AV.cut,na,pa,g1',g6,Dk,fresh,ve,chunk]
end Go.AM.B1
namespace Go.AM.B1
open Go.AM Go.AM.So
def LR (es:List ze):List PV:=(List.range 256).map fun b=> .int .i8 (Ak es b)
theorem MR {es:List ze} {b:Nat} (hb:b < 256) (H:List ba):xa H false 1 (.pv (.rp (LR es) b))=some (.pv (.int .i8 (Ak es b))):=by
 have:(LR es)[b]? =some (.int .i8 (Ak es b)):=by rw[LR,List.getElem?_map,List.getElem?_range hb];rfl
 simp only[xa,Hl,Bool.false_eq_true,if_false,this];rfl
theorem OU {NX:PV} {l:List (List ze)} (h:Vi 256 NX (l.map zn)) {i:Nat} (hi:i < l.length) (H:List ba):wa H 256 (.pv NX) (i:Int)=some (.pv (.rp (LR l[i]) 0)):=by
 rw[h.lit (i:=i) (by simpa using hi)]
 simp only[wa]
 rw[if_pos ⟨trivial,by unfold Ia;rw[List.length_map];omega⟩,Int.toNat_natCast,List.getElem?_map,List.getElem?_eq_getElem hi];rfl
theorem Ew (H:List ba) (a b c d e f:PV):xa H false 1 (.pv (.rp [a,b,c,d,e,f] 2))=some (.pv c)∧xa H false 1 (.pv (.rp [a,b,c,d,e,f] 3))=some (.pv d)∧xa H false 1 (.pv (.rp [a,b,c,d,e,f] 4))=some (.pv e)∧xa H false 1 (.pv (.rp [a,b,c,d,e,f] 5))=some (.pv f)∧xa H false 1 (.pv (.rp [a,b,c,d,e,f] 0))=some (.pv a)∧xa H false 1 (.pv (.rp [a,b,c,d,e,f] 1))=some (.pv b)∧xa H true 1 (.pv (.rp [a,b,c,d,e,f] 0))=some (.pv (.agg [a])):=⟨rfl,rfl,rfl,rfl,rfl,rfl,rfl⟩
section
variable {T:PV} {ss:List Lb} {l:List (List ze)} (hT:Bo T ss l) (ho:∀ e∈l,Ej e)
include hT ho
theorem sQ {st b:Int} (hb:0≤b∧b≤255):Pe [T,i64 st,u8 b]=some (.mc [i64 (El l st b).1,.bool (El l st b).2]):=by
 obtain⟨S',NX,DG,RW,rfl,_,hNX,_,_⟩:=hT.ex
 have hrp:=Ew (a:=S') (b:=qj l) (c:=NX) (d:=DG) (e:=RW) (f:=i64 (Xe ss))
 have l2:=fun H=>(hrp H).1
 have ln:=hNX.len
 rw[List.length_map] at ln
 generalize ([S',qj l,NX,DG,RW,i64 (Xe ss)]:List PV)=R at *
 by_cases h0:st < 0
 ·have hs:El l st b=(0,false):=by unfold El;rw[if_pos h0]
  have d0:decide (st < 0)=true:=Fa h0
  rw[hs]
  simp -implicitDefEqProofs only[Pe,SX,sevalprocAttr,Dg,Vs,d0]
 have d0:decide (st < 0)=false:=Ga h0
 obtain⟨i,rfl⟩:∃ i:Nat,st=(i:Int):=⟨st.toNat,by omega⟩
 by_cases h1:i < l.length
 ·have d1:decide ((i:Int)≥(l.length:Int))=false:=Ga (by omega)
  have a1:=OU hNX h1
  have hs:El l (i:Int) b=match tg b l[i] with
   |some t=>(t,true)
   |none=>(0,false):=by unfold El;rw[if_neg h0,Int.toNat_natCast,List.getElem?_eq_getElem h1] <;> rfl
  have heo:=(ho _ (List.getElem_mem h1)).HC
  rw[hs]
  generalize l[i]=es at *
  have hid:(0≤b∧b < ((256:Nat):Int))=True:=eq_true (by omega)
  have l3:=fun H=>MR (es:=es) (b:=b.toNat) (by omega) H
  have hg:Ak es b.toNat=(tg b es).getD (-2):=by unfold Ak;rw[Int.toNat_of_nonneg hb.1]
  rw[hg] at l3
  have rpA1:∀ H (row:List PV),place H b.toNat (.pv (.rp row 0))=some (.pv (.rp row b.toNat)):=fun H row=>by rw[NG,Nat.zero_add]
  cases hse:tg b es with
  |none=>
   rw[hse] at l3
   have z:((-2:Int)== -2)=true:=rfl
   have l3:∀ H,xa H false 1 (.pv (.rp (LR es) b.toNat))=some (.pv (.int .i8 (-2))):=l3
   simp -implicitDefEqProofs only[Pe,SX,sevalprocAttr,Dg,Vs,d0,d1,NG,rpA1,l2,ln,a1,hid,l3,z]
  |some t=>
   rw[hse] at l3
   have l3:∀ H,xa H false 1 (.pv (.rp (LR es) b.toNat))=some (.pv (.int .i8 t)):=l3
   obtain⟨x,hx,_,_,hxt⟩:=Kw hse
   have hr:=heo x hx
   rw[hxt] at hr
   have z:(t== -2)=false:=by simp;omega
   have t1:IntKind.i64.wrap t=t:=Ca (by omega)
   simp -implicitDefEqProofs only[Pe,SX,sevalprocAttr,Dg,Vs,d0,d1,NG,rpA1,l2,ln,a1,hid,l3,z,t1]
 ·have d1:decide ((i:Int)≥(l.length:Int))=true:=Fa (by omega)
  have hs:El l (i:Int) b=(0,false):=by unfold El;rw[if_neg h0,Int.toNat_natCast,List.getElem?_eq_none (by omega)]
  rw[hs]
  simp -implicitDefEqProofs only[Pe,SX,sevalprocAttr,Dg,Vs,d0,d1,NG,l2,ln]
end
theorem zN {T B:PV} {bs:List Int} {l:List (List ze)} (hs:∀ st b,0≤b→b≤255→Pe [T,i64 st,u8 b]=some (.mc [i64 (El l st b).1,.bool (El l st b).2])) (hB:Wi B bs) (hw:bs.length≤maxLen):
 kh [T,B]=some (.mc [i64 (Og l 0 0 bs).1,i64 (Og l 0 0 bs).2]):=by
 have lB:=hB.Vb
 obtain⟨R,hR⟩:∃ R,R=Og l 0 0 bs:=⟨_,rfl⟩
 rw[← hR]
 have hloop:=fun (E:Tr) (h0:E.get 0= .pv T) (h1:E.get 1= .pv B) (h6:E.get 6= .pv (i64 0)) (h11:E.get 11= .pv B) (h12:E.get 12= .pv (i64 bs.length)) (h13:E.get 13= .pv (i64 0))=>
  Qn (call:=Ea (fun _=>none) 8) (b:=Ve) (live:=[0,1,6,11,12,13]) (s:=⟨E,[]⟩) (Q:=fun r=>(∃ E',r=(.exit 0,⟨E',[]⟩)∧E'.get 1= .pv B∧R=((bs.length:Int),2))∨∃ E',r=(.ret,⟨E',[]⟩)∧E'.get 4= .pv (i64 R.1)∧E'.get 5= .pv (i64 R.2))
   (fun i t=>Td [0,1,11,12] E t.env∧t.env.get 13= .pv (i64 i)∧t.H=[]∧∃ st,t.env.get 6= .pv (i64 st)∧R=Og l i st (bs.drop i)) bs.length (by unfold qa;unfold maxLen at hw;omega)
   (Tg.all rfl (by simp) (Fit.cons h0 Ma (.cons h1 Ma (.cons h6 Ma (.cons h11 Ma (.cons h12 Ma (.cons h13 Ma (.nil _ _))))))) fun E' hE=>⟨Td.sub hE rfl,by rw[hE 13 (by simp),h13];rfl,rfl,0,by rw[hE 6 (by simp),h6],hR⟩)
   (by
    rintro i ⟨E1,H1⟩ hi ⟨k1,k2,k3,st,k4,k5⟩
    simp only at k1 k2 k3 k4
    subst k3
    have g0:=(k1 0 (by simp)).trans h0
    have g11:=(k1 11 (by simp)).trans h11
    have g12:=(k1 12 (by simp)).trans h12
    have a1:=hB.sd hi
    have hbr:=hB.HC bs[i] (List.getElem_mem hi)
    have hst:=hs st bs[i] hbr.1 hbr.2
    have hd:bs.drop i=bs[i]::bs.drop (i+1):=List.drop_eq_getElem_cons hi
    rw[hd,Og] at k5
    generalize bs[i]=b at *
    have e1:decide ((i:Int) < (bs.length:Int))=true:=Fa (by omega)
    have t1:=Ua hi hw
    generalize El l st b=p at *
    obtain⟨to,is⟩:=p
    have hx:∀ (Q:Ex×St→Prop),Q=Q:=fun _=>rfl
    generalize hQ:RQ _ _ _ _=Q
    cases is with
    |false=>
     simp only[if_true] at k5
     simp -implicitDefEqProofs only[SX,sevalprocAttr,Ve,g0,g11,g12,k2,k4,e1,a1,Ta,hst]
     subst hQ
     exact .inr ⟨_,rfl,by rw[k5];simp[Tr.aa],by rw[k5];simp[Tr.aa]⟩
    |true=>
     simp only[Bool.true_eq_false,if_false] at k5
     by_cases hto:to= -1
     ·subst hto
      rw[if_pos rfl] at k5
      have z:((-1:Int)== -1)=true:=rfl
      simp -implicitDefEqProofs only[SX,sevalprocAttr,Ve,g0,g11,g12,k2,k4,e1,a1,Ta,hst,z,t1]
      subst hQ
      exact .inr ⟨_,rfl,by rw[k5];simp[Tr.aa],by rw[k5];simp[Tr.aa]⟩
     ·rw[if_neg hto] at k5
      have z:(to== -1)=false:=by simp[hto]
      simp -implicitDefEqProofs only[SX,sevalprocAttr,Ve,g0,g11,g12,k2,k4,e1,a1,Ta,hst,z,t1]
      subst hQ
      rw[Xl]
      generalize hEE:(Tr.set _ 13 _:Tr)=E2
      have kk:Td [0,1,11,12] E E2:=by
       rw[← hEE]
       repeat refine Td.set ?_ rfl
       exact k1
      have z13:E2.get 13= .pv (i64 (i+1:Nat)):=by rw[← hEE];simp[Tr.aa]
      have z6:E2.get 6= .pv (i64 to):=by rw[← hEE];simp[Tr.aa]
      exact Tg.all rfl (by simp) (Fit.sub (.cons z13 Ma (.cons z6 Ma (Fit.Je (l:=[0,1,11,12]) (.cons h0 Ma (.cons h1 Ma (.cons h11 Ma (.cons h12 Ma (.nil _ _))))) kk))) rfl) fun E' hE=>⟨kk.trans (Td.sub hE rfl),by rw[hE 13 (by simp),z13],rfl,to,by rw[hE 6 (by simp),z6],k5⟩)
   (by
    rintro⟨E1,H1⟩ ⟨k1,k2,k3,st,k4,k5⟩
    simp only at k1 k2 k3 k4
    subst k3
    have g12:=(k1 12 (by simp)).trans h12
    rw[List.drop_length,Og] at k5
    have e1:decide ((bs.length:Int) < (bs.length:Int))=false:=Ga (by omega)
    generalize hQ:(fun r:Ex×St=>r.1.stop=true∧_)=Q
    simp -implicitDefEqProofs only[SX,sevalprocAttr,Ve,g12,k2,e1]
    subst hQ
    exact⟨rfl,.inl ⟨_,rfl,by rw[Tr.aa,if_neg (by decide)];exact (k1 1 (by simp)).trans h1,k5⟩⟩)
 refine Yk ?_
 generalize hQ:(fun x:PV=>x=_)=Q
 simp -implicitDefEqProofs only[kh,SX,sevalprocAttr,Gl,lB]
 generalize hEE:(Tr.set _ 13 _:Tr)=E
 refine za (hloop E (by rw[← hEE];simp[Tr.aa]) (by rw[← hEE];simp[Tr.aa]) (by rw[← hEE];simp[Tr.aa]) (by rw[← hEE];simp[Tr.aa]) (by rw[← hEE];simp[Tr.aa]) (by rw[← hEE];simp[Tr.aa])) ?_
 rintro r ⟨_,⟨E',rfl,z1,z2⟩ | ⟨E',rfl,z4,z5⟩⟩
 ·simp -implicitDefEqProofs only[SX,sevalprocAttr,z1,lB]
  subst hQ
  rw[z2]
 ·simp -implicitDefEqProofs only[SX,sevalprocAttr,z4,z5]
  subst hQ;rfl
theorem FM {T B:PV} {ss:List Lb} {bs:List Int} {l:List (List ze)} (hT:Bo T ss l) (ho:∀ e∈l,Ej e) (hB:Wi B bs) (hw:bs.length≤maxLen):
 kh [T,B]=some (.mc [i64 (Og l 0 0 bs).1,i64 (Og l 0 0 bs).2]):=zN (fun st b h0 h1=>sQ hT ho ⟨h0,h1⟩) hB hw
end Go.AM.B1
namespace Go.AM.B1
open Go.AM Go.AM.So
def RI (a b:Int):Int:=if a < b then -1 else if a > b then 1 else 0
theorem PK (a b:Int):Bi [i64 a,i64 b]=some (i64 (RI a b)):=by
 have hn:∀ x:Int,Vl [i64 x]=some (.bool false):=fun x=>by
  have z:(x != x)=false:=by simp
  simp -implicitDefEqProofs only[Vl,SX,sevalprocAttr,wv,z]
 unfold RI
 by_cases h1:a < b
 ·have d1:decide (a < b)=true:=Fa h1
  rw[if_pos h1]
  simp -implicitDefEqProofs only[Bi,SX,sevalprocAttr,xk,hn,d1]
 ·have d1:decide (a < b)=false:=Ga h1
  rw[if_neg h1]
  by_cases h2:a > b
  ·have d2:decide (a > b)=true:=Fa h2
   rw[if_pos h2]
   simp -implicitDefEqProofs only[Bi,SX,sevalprocAttr,xk,hn,d1,d2]
  ·have d2:decide (a > b)=false:=Ga h2
   rw[if_neg h2]
   simp -implicitDefEqProofs only[Bi,SX,sevalprocAttr,xk,hn,d1,d2]
theorem XK (call:Wa) (a b c u:Int) (H:List ba):Ri call Yi [.pv (.agg [i64 a,i64 b,i64 c]),.pv (i64 u)] H=some (.pv (i64 (RI a u)),H):=by
 have hc:=PK a u
 have l0:∀ H,xa H false 1 (.pv (.rp [i64 a,i64 b,i64 c] 0))=some (.pv (i64 a)):=fun H=>rfl
 have l1:∀ H,place H 0 (.pv (.rp [i64 a,i64 b,i64 c] 0))=some (.pv (.rp [i64 a,i64 b,i64 c] 0)):=fun H=>rfl
 simp -implicitDefEqProofs only[SX,sevalprocAttr,Yi,l0,l1,hc]
def r0 (r:List Int):Int:=r.getD 0 0
def r1 (r:List Int):Int:=r.getD 1 0
def r2 (r:List Int):Int:=r.getD 2 0
theorem sZ {r:List Int} (h:r.length=3):r=[r0 r,r1 r,r2 r]:=by
 match r,h with
 | [a,b,c],_=>rfl
section
variable {RW:PV} {D:List (List Int)} (hR:Vi 3 RW (D.map KH)) (hD:∀ r∈D,r.length=3)
include hR hD
theorem rz {i:Nat} (hi:i < D.length) (H:List ba):wa H 3 (.pv RW) (i:Int)=some (.pv (.rp [i64 (r0 D[i]),i64 (r1 D[i]),i64 (r2 D[i])] 0)):=by
 rw[hR.lit (i:=i) (by simpa using hi)]
 simp only[wa]
 have h3:=sZ (hD _ (List.getElem_mem hi))
 rw[if_pos ⟨trivial,by unfold Ia;rw[List.length_map];omega⟩,Int.toNat_natCast,List.getElem?_map,List.getElem?_eq_getElem hi,Option.map_some,Option.map_some]
 congr 4
 show (KH D[i]).cells=_
 unfold KH
 generalize D[i]=r at *
 match r,h3 with
 |r,h3=>rw[h3];rfl
variable (hs:∀ i j (h:i < j) (hj:j < D.length),r0 D[i]≤r0 D[j]) (hlen:D.length≤32)
include hs hlen
theorem nY {H:List ba} (hH:Gg H) (u:Int):∃ i:Nat,i≤D.length∧(∀ k (hk:k < D.length),k < i→r0 D[k] < u)∧(∀ k (hk:k < D.length),i≤k→u≤r0 D[k])∧
 Ri (Ea ue 7) mb [.pv RW,.pv (i64 u),.Fk 41 []] H=some (.pv (.mc [i64 i,.bool (if h:i < D.length then decide (r0 D[i]=u) else false)]),H):=by
 have lR:=hR.len
 rw[List.length_map] at lR
 have c41:ue 41=some Yi:=rfl
 have r3:∀ H (x y z:PV),xa H true 3 (.pv (.rp [x,y,z] 0))=some (.pv (.agg [x,y,z])):=fun H x y z=>rfl
 have hcl:∀ n,AV.cut n deep (.Fk 41 [])=some (.Fk 41 []):=fun n=>rfl
 have hloop:=fun (E:Tr) (h0:E.get 0= .pv RW) (h1:E.get 1= .pv (i64 u)) (h2:E.get 2= .Fk 41 []) (h8:E.get 8= .pv (i64 D.length)) (h9:E.get 9= .pv (i64 0)) (h10:E.get 10= .pv (i64 D.length))=>
  LP (call:=Ea ue 7) (b:=Ab) (live:=[0,1,2,8,9,10]) (s:=⟨E,H⟩)
   (Q:=fun r=>∃ E' i,r=(.exit 0,⟨E',H⟩)∧Td [0,1,2,8] E E'∧E'.get 9= .pv (i64 (i:Nat))∧i≤D.length∧(∀ k (hk:k < D.length),k < i→r0 D[k] < u)∧(∀ k (hk:k < D.length),i≤k→u≤r0 D[k]))
   (fun m t=>Td [0,1,2,8] E t.env∧t.H=H∧∃ i j:Nat,t.env.get 9= .pv (i64 i)∧t.env.get 10= .pv (i64 j)∧i≤j∧j≤D.length∧m=j - i∧(∀ k (hk:k < D.length),k < i→r0 D[k] < u)∧(∀ k (hk:k < D.length),j≤k→u≤r0 D[k]))
   D.length (by unfold qa;omega)
   (Tg.all rfl (hH _ (Nat.le_refl _)) (Fit.cons h0 Ma (.cons h1 Ma (.cons h2 (hcl _) (.cons h8 Ma (.cons h9 Ma (.cons h10 Ma (.nil _ _))))))) fun E' hE=>⟨Td.sub hE rfl,rfl,0,D.length,by rw[hE 9 (by simp),h9];rfl,by rw[hE 10 (by simp),h10],by omega,by omega,by omega,fun k _ h=>by omega,fun k hk h=>by omega⟩)
   (by
    rintro m ⟨E1,H1⟩ ⟨k1,k2,i,j,k9,k10,hij,hj,hm,ha,hb⟩
    simp only at k1 k2 k9 k10
    replace k2:=k2.symm
    subst k2
    by_cases hlt:i < j
    ·have e1:decide ((i:Int) < (j:Int))=true:=Fa (by omega)
     have g0:=(k1 0 (by simp)).trans h0
     have g1:=(k1 1 (by simp)).trans h1
     have g2:=(k1 2 (by simp)).trans h2
     obtain⟨h,hh⟩:∃ h,h=(i+j) / 2:=⟨_,rfl⟩
     have hhD:h < D.length:=by omega
     have a1:=rz hR hD hhD
     have hc:=XK (Ea ue 6) (r0 D[h]) (r1 D[h]) (r2 D[h]) u H
     have w1:IntKind.i64.wrap ((i:Int)+(j:Int))=(i:Int)+j:=Ca (by omega)
     have w2:IntKind.u64.wrap ((i:Int)+(j:Int))=(i:Int)+j:=by
      unfold IntKind.wrap;simp[IntKind.signed,IntKind.bits];omega
     have w3:((i:Int)+(j:Int)).fdiv (2 ^ min 1 IntKind.u64.bits)=(h:Int):=by
      show ((i:Int)+(j:Int)).fdiv 2=_
      rw[Int.fdiv_eq_ediv_of_nonneg _ (by omega)];omega
     have w4:IntKind.i64.wrap (h:Int)=(h:Int):=Ca (by omega)
     have w5:IntKind.i64.wrap ((h:Int)+1)=((h+1:Nat):Int):=ym (by omega)
     have z0:((1:Int) < 0)=False:=by simp
     generalize hQ:RQ _ _ _ _=Q
     by_cases hcu:r0 D[h] < u
     ·have hcm:RI (r0 D[h]) u= -1:=by unfold RI;rw[if_pos hcu]
      have z1:decide ((-1:Int) < 0)=true:=rfl
      rw[hcm] at hc
      simp -implicitDefEqProofs only[SX,sevalprocAttr,Ab,k9,k10,e1,g0,g1,g2,a1,r3,w1,w2,w3,w4,w5,z0,c41,hc,z1]
      subst hQ
      rw[Xl]
      generalize hEE:(Tr.set _ 9 _:Tr)=E2
      have kk:Td [0,1,2,8] E E2:=by
       rw[← hEE]
       repeat refine Td.set ?_ rfl
       exact k1
      have z9:E2.get 9= .pv (i64 (h+1:Nat)):=by rw[← hEE];simp[Tr.aa]
      have z10:E2.get 10= .pv (i64 j):=by rw[← hEE];simp[Tr.aa,k10]
      exact Tg.all rfl (hH _ (Nat.le_refl _)) (Fit.sub (.cons z9 Ma (.cons z10 Ma (Fit.Je (l:=[0,1,2,8]) (.cons h0 Ma (.cons h1 Ma (.cons h2 (hcl _) (.cons h8 Ma (.nil _ _))))) kk))) rfl) fun E' hE=>⟨j - (h+1),by omega,kk.trans (Td.sub hE rfl),rfl,h+1,j,by rw[hE 9 (by simp),z9],by rw[hE 10 (by simp),z10],by omega,hj,rfl,fun k hk hkh=>by
       rcases Nat.lt_or_ge k h with h5 | h5
       ·exact Int.lt_of_le_of_lt (hs k h h5 hhD) hcu
       ·obtain rfl:k=h:=by omega
        exact hcu,hb⟩
     ·have z1:decide (RI (r0 D[h]) u < 0)=false:=Ga (by unfold RI;rw[if_neg hcu];split <;> omega)
      simp -implicitDefEqProofs only[SX,sevalprocAttr,Ab,k9,k10,e1,g0,g1,g2,a1,r3,w1,w2,w3,w4,w5,z0,c41,hc,z1]
      subst hQ
      rw[Xl]
      generalize hEE:(Tr.set _ 10 _:Tr)=E2
      have kk:Td [0,1,2,8] E E2:=by
       rw[← hEE]
       repeat refine Td.set ?_ rfl
       exact k1
      have z9:E2.get 9= .pv (i64 i):=by rw[← hEE];simp[Tr.aa,k9]
      have z10:E2.get 10= .pv (i64 h):=by rw[← hEE];simp[Tr.aa]
      exact Tg.all rfl (hH _ (Nat.le_refl _)) (Fit.sub (.cons z9 Ma (.cons z10 Ma (Fit.Je (l:=[0,1,2,8]) (.cons h0 Ma (.cons h1 Ma (.cons h2 (hcl _) (.cons h8 Ma (.nil _ _))))) kk))) rfl) fun E' hE=>⟨h - i,by omega,kk.trans (Td.sub hE rfl),rfl,i,h,by rw[hE 9 (by simp),z9],by rw[hE 10 (by simp),z10],by omega,by omega,rfl,ha,fun k hk hkh=>by
       rcases Nat.lt_or_ge h k with h5 | h5
       ·exact Int.le_trans (Int.not_lt.1 hcu) (hs h k h5 hk)
       ·obtain rfl:k=h:=by omega
        omega⟩
    ·obtain rfl:i=j:=by omega
     have e1:decide ((i:Int) < (i:Int))=false:=Ga (by omega)
     generalize hQ:RQ _ _ _ _=Q
     simp -implicitDefEqProofs only[SX,sevalprocAttr,Ab,k9,k10,e1]
     subst hQ
     exact⟨_,i,rfl,by repeat refine Td.set ?_ rfl
                      exact k1,by simp[Tr.aa,k9],hj,ha,hb⟩)
 have key:Gd (fun r=>∃ i:Nat,i≤D.length∧(∀ k (hk:k < D.length),k < i→r0 D[k] < u)∧(∀ k (hk:k < D.length),i≤k→u≤r0 D[k])∧r=(.pv (.mc [i64 i,.bool (if h:i < D.length then decide (r0 D[i]=u) else false)]),H)) (Ri (Ea ue 7) mb [.pv RW,.pv (i64 u),.Fk 41 []] H):=by
  generalize hQ:(fun r:AV×List ba=>∃ i:Nat,_)=Q
  simp -implicitDefEqProofs only[SX,sevalprocAttr,mb,lR]
  generalize hEE:(Tr.set _ 10 _:Tr)=E
  refine za (hloop E (by rw[← hEE];simp[Tr.aa]) (by rw[← hEE];simp[Tr.aa]) (by rw[← hEE];simp[Tr.aa]) (by rw[← hEE];simp[Tr.aa]) (by rw[← hEE];simp[Tr.aa]) (by rw[← hEE];simp[Tr.aa])) ?_
  have h0:E.get 0= .pv RW:=by rw[← hEE];simp[Tr.aa]
  have h1:E.get 1= .pv (i64 u):=by rw[← hEE];simp[Tr.aa]
  have h2:E.get 2= .Fk 41 []:=by rw[← hEE];simp[Tr.aa]
  have h8:E.get 8= .pv (i64 D.length):=by rw[← hEE];simp[Tr.aa]
  rintro r ⟨_,E',i,rfl,k1,k9,hi,ha,hb⟩
  have g0:=(k1 0 (by simp)).trans h0
  have g1:=(k1 1 (by simp)).trans h1
  have g2:=(k1 2 (by simp)).trans h2
  have g8:=(k1 8 (by simp)).trans h8
  by_cases hlt:i < D.length
  ·have e1:decide ((i:Int) < (D.length:Int))=true:=Fa (by omega)
   have a1:=rz hR hD hlt
   have hc:=XK (Ea ue 6) (r0 D[i]) (r1 D[i]) (r2 D[i]) u H
   have hge:=hb i hlt (Nat.le_refl _)
   have z:(RI (r0 D[i]) u==0)=decide (r0 D[i]=u):=by
    unfold RI
    rw[if_neg (by omega)]
    by_cases h5:r0 D[i] > u
    ·rw[if_pos h5,Ga (by omega)];rfl
    ·rw[if_neg h5,Fa (by omega)];rfl
   simp -implicitDefEqProofs only[SX,sevalprocAttr,k9,g0,g1,g2,g8,e1,a1,r3,c41,hc,z]
   subst hQ
   exact⟨i,hi,ha,hb,by rw[dif_pos hlt]⟩
  ·have e1:decide ((i:Int) < (D.length:Int))=false:=Ga (by omega)
   simp -implicitDefEqProofs only[SX,sevalprocAttr,k9,g0,g1,g2,g8,e1]
   subst hQ
   exact⟨i,hi,ha,hb,by rw[dif_neg hlt]⟩
 obtain⟨r,h1,i,h2,h3,h4,rfl⟩:=xc key
 exact⟨i,h2,h3,h4,h1⟩
end
theorem NP {ss:List Lb} {r:List Int} (h:r∈sj ss):∃ j,∃ hj:j < ss.length,r=Gv ss[j] j:=by
 have:=(sq ss).mem_iff.1 h
 unfold Ki at this
 obtain⟨j,hj,rfl⟩:=List.mem_map.1 this
 have hj:=List.mem_range.1 hj
 exact⟨j,hj,by rw[List.getD_eq_getElem?_getD,List.getElem?_eq_getElem hj];rfl⟩
theorem gS {ss:List Lb} {j:Nat} (hj:j < ss.length):Gv ss[j] j∈sj ss:=by
 refine (sq ss).mem_iff.2 ?_
 unfold Ki
 refine List.mem_map.2 ⟨j,List.mem_range.2 hj,?_⟩
 rw[List.getD_eq_getElem?_getD,List.getElem?_eq_getElem hj];rfl
theorem dI (ss:List Lb) (i j:Nat) (h:i < j) (hj:j < (sj ss).length):r0 (sj ss)[i]≤r0 (sj ss)[j]:=by
 obtain⟨h1,h2,h3⟩:=Xy 3 0 (Ki ss ss.length).toArray
 have hj':j < (Ki ss ss.length).toArray.size:=by rw[← h1];simpa[sj] using hj
 have h4:=h3 i j h hj'
 have key:∀ k (hk:k < (sj ss).length),uw 3 0 (Ho 3 0 (Ki ss ss.length).toArray)[k]! =r0 (sj ss)[k]:=by
  intro k hk
  have hk':k < (Ho 3 0 (Ki ss ss.length).toArray).size:=by simpa[sj] using hk
  rw[getElem!_pos _ k hk']
  have e:(Ho 3 0 (Ki ss ss.length).toArray)[k]=(sj ss)[k]:=by simp[sj]
  have h3:=gA (List.getElem_mem hk)
  rw[e]
  generalize (sj ss)[k]=r at *
  unfold uw r0
  rw[if_pos h3]
 rw[key i (by omega),key j hj] at h4
 omega
theorem lJ (ss:List Lb):(sj ss).Nodup:=by
 refine (sq ss).nodup_iff.2 ?_
 unfold Ki List.Nodup
 rw[List.pairwise_map]
 refine List.Pairwise.imp ?_ (List.nodup_range (n:=ss.length))
 intro i j h e
 unfold Gv at e
 injection e with _ e
 injection e with _ e
 injection e with e _
 omega
def has (s:Lb) (u:Int):Prop:=s.first≤u∧u < s.first+Ha s.parts
theorem bJ {ss:List Lb} (Ba:Tb ss) {i j:Nat} (hi:i < ss.length) (hj:j < ss.length) {u:Int} (h1:has ss[i] u) (h2:has ss[j] u):i=j:=by
 have hap:=Ba.apart
 rw[List.pairwise_iff_getElem] at hap
 have e1:=(Ba.Xo _ (List.getElem_mem hi)).yh
 have e2:=(Ba.Xo _ (List.getElem_mem hj)).yh
 unfold has at h1 h2
 rcases Nat.lt_trichotomy i j with h | h | h
 ·exact absurd (hap i j hi hj h u) (fun hn=>hn ⟨by omega,by omega⟩)
 ·exact h
 ·exact absurd (hap j i hj hi h u) (fun hn=>hn ⟨by omega,by omega⟩)
section
variable {T:PV} {ss:List Lb} {l:List (List ze)} (hT:Bo T ss l) (Ba:Tb ss)
include hT Ba
theorem KS (u:Int):(∃ j,∃ hj:j < ss.length,has ss[j] u∧ie [T,i64 u]=some (.mc [.agg [i64 ss[j].first,i64 (ss[j].first+Ha ss[j].parts - 1),i64 j],.bool true]))∨
 ((∀ s∈ss,¬has s u)∧ie [T,i64 u]=some (.mc [.agg [i64 0,i64 0,i64 0],.bool false])):=by
 obtain⟨S',NX,DG,RW,rfl,_,_,_,hRW⟩:=hT.ex
 have hrp:=Ew (a:=S') (b:=qj l) (c:=NX) (d:=DG) (e:=RW) (f:=i64 (Xe ss))
 have l4:=fun H=>(hrp H).2.2.1
 generalize ([S',qj l,NX,DG,RW,i64 (Xe ss)]:List PV)=R at *
 obtain⟨D,hRW,hDr,hDm,hDh,hDl,hDs,hnd⟩:∃ D:List (List Int),Vi 3 RW (D.map KH)∧(∀ r∈D,r.length=3)∧(∀ r∈D,∃ j,∃ hj:j < ss.length,r=Gv ss[j] j)∧(∀ j (hj:j < ss.length),Gv ss[j] j∈D)∧D.length=ss.length∧(∀ i j (h:i < j) (hj:j < D.length),r0 D[i]≤r0 D[j])∧D.Nodup:=
  ⟨sj ss,hRW,fun r hr=>gA hr,fun r hr=>NP hr,fun j hj=>gS hj,sH ss,dI ss,lJ ss⟩
 have h32:=Ba.len
 have hg:Gg [ba.box [.pv (i64 0),.pv (i64 0),.pv (i64 0)]]:=fun n _ o ho=>by
  rw[List.mem_singleton] at ho;subst ho;exact Aq n [i64 0,i64 0,i64 0]
 obtain⟨i,hi,ha,hb,hrun⟩:=nY hRW hDr hDs (by omega) hg u
 have c40:ue 40=some mb:=rfl
 have b0:∀ a b c d e f,Oa [ba.box [.pv a,.pv b,.pv c]] 3 (.ptr 0 0) (.pv (.agg [.int .i64 d,.int .i64 e,.int .i64 f]))=some [.box [.pv (i64 d),.pv (i64 e),.pv (i64 f)]]:=fun a b c d e f=>rfl
 have ld:∀ a b c,xa [ba.box [.pv a,.pv b,.pv c]] true 3 (.ptr 0 0)=some (.pv (.agg [a,b,c])):=fun a b c=>rfl
 have r3:∀ H (x y z:PV),xa H true 3 (.pv (.rp [x,y,z] 0))=some (.pv (.agg [x,y,z])):=fun H x y z=>rfl
 have r31:∀ H (x y z:PV),xa H false 1 (.pv (.rp [x,y,z] 1))=some (.pv y):=fun H x y z=>rfl
 have fin:∀ k (hk:k < D.length),(∀ m (hm:m < D.length),k < m→u < r0 D[m])→r0 D[k]≤u→
  ((u≤r1 D[k]→∃ j,∃ hj:j < ss.length,has ss[j] u∧PV.agg [i64 (r0 D[k]),i64 (r1 D[k]),i64 (r2 D[k])]= .agg [i64 ss[j].first,i64 (ss[j].first+Ha ss[j].parts - 1),i64 j])∧(¬ u≤r1 D[k]→∀ s∈ss,¬has s u)):=by
  intro k hk hgt hle
  obtain⟨j',hj',hr'⟩:=hDm _ (List.getElem_mem hk)
  constructor
  ·intro h1
   rw[hr'] at h1 hle ⊢
   refine⟨j',hj',⟨hle,?_⟩,rfl⟩
   have:u≤ss[j'].first+Ha ss[j'].parts - 1:=h1
   omega
  ·intro h1 s hs hh
   obtain⟨j,hj,rfl⟩:=List.getElem_of_mem hs
   obtain⟨m,hm,hmr⟩:=List.getElem_of_mem (hDh j hj)
   have hh':=hh
   unfold has at hh'
   have hp:=sf (Ba.Xo _ (List.getElem_mem hj')).parts
   rcases Nat.lt_or_ge k m with h | h
   ·have:=hgt m hm h
    rw[hmr] at this
    have:u < ss[j].first:=this
    omega
   ·have h3:r0 D[m]≤r0 D[k]:=by
     rcases Nat.lt_or_ge m k with h5 | h5
     ·exact hDs m k h5 hk
     ·have:m=k:=by omega
      subst this;exact Int.le_refl _
    rw[hmr] at h3
    rw[hr'] at h3 hle h1
    have h3:ss[j].first≤ss[j'].first:=h3
    have hle:ss[j'].first≤u:=hle
    have e:j=j':=bJ Ba hj hj' (u:=ss[j'].first) ⟨h3,by omega⟩ ⟨Int.le_refl _,by omega⟩
    subst e
    have:¬u≤ss[j].first+Ha ss[j].parts - 1:=h1
    omega
 have step:∀ (k:Nat) (hk:k < D.length),(∀ q (hq:q < D.length),k < q→u < r0 D[q])→r0 D[k]≤u→∀ R0:PV,
  (u≤r1 D[k]→R0= .mc [.agg [i64 (r0 D[k]),i64 (r1 D[k]),i64 (r2 D[k])],.bool true])→(¬ u≤r1 D[k]→R0= .mc [.agg [i64 0,i64 0,i64 0],.bool false])→
  (∃ j,∃ hj:j < ss.length,has ss[j] u∧R0= .mc [.agg [i64 ss[j].first,i64 (ss[j].first+Ha ss[j].parts - 1),i64 j],.bool true])∨((∀ s∈ss,¬has s u)∧R0= .mc [.agg [i64 0,i64 0,i64 0],.bool false]):=by
  intro k hk h1 h2 R0 h3 h4
  obtain⟨f1,f2⟩:=fin k hk h1 h2
  by_cases hc:u≤r1 D[k]
  ·obtain⟨j,hj,g1,g2⟩:=f1 hc
   exact .inl ⟨j,hj,g1,by rw[h3 hc,g2]⟩
  ·exact .inr ⟨f2 hc,h4 hc⟩
 suffices key:∃ R0,ie [.rp R 0,i64 u]=some R0∧((∃ j,∃ hj:j < ss.length,has ss[j] u∧R0= .mc [.agg [i64 ss[j].first,i64 (ss[j].first+Ha ss[j].parts - 1),i64 j],.bool true])∨((∀ s∈ss,¬has s u)∧R0= .mc [.agg [i64 0,i64 0,i64 0],.bool false])) by
  obtain⟨R0,k1,⟨j,hj,k2,rfl⟩ | ⟨k2,rfl⟩⟩:=key
  ·exact .inl ⟨j,hj,k2,k1⟩
  ·exact .inr ⟨k2,k1⟩
 by_cases his:∃ h:i < D.length,r0 D[i]=u
 ·obtain⟨h,he⟩:=his
  rw[dif_pos h,Fa he] at hrun
  have hgt:∀ q (hq:q < D.length),i < q→u < r0 D[q]:=by
   intro q hq hiq
   have h3:=hDs i q hiq hq
   rcases Int.lt_or_le u (r0 D[q]) with h5 | h5
   ·exact h5
   ·exfalso
    obtain⟨j,hj,hr⟩:=hDm _ (List.getElem_mem h)
    obtain⟨j',hj',hr'⟩:=hDm _ (List.getElem_mem hq)
    have hp:=sf (Ba.Xo _ (List.getElem_mem hj)).parts
    have hp':=sf (Ba.Xo _ (List.getElem_mem hj')).parts
    have e1:ss[j].first=u:=by rw[hr] at he;exact he
    have e2:ss[j'].first≤u:=by rw[hr'] at h5;exact h5
    have e3:u≤ss[j'].first:=by rw[hr',he] at h3;exact h3
    have:j=j':=bJ Ba hj hj' (u:=u) ⟨by omega,by omega⟩ ⟨by omega,by omega⟩
    subst this
    have:=(List.getElem_inj hnd).1 (hr.trans hr'.symm)
    omega
  have a1:=rz hRW hDr h
  have z1:decide ((i:Int) < 0)=false:=Ga (by omega)
  refine⟨_,?_,step i h hgt (by omega) (if u≤r1 D[i] then .mc [.agg [i64 (r0 D[i]),i64 (r1 D[i]),i64 (r2 D[i])],.bool true] else .mc [.agg [i64 0,i64 0,i64 0],.bool false]) (fun h=>by rw[if_pos h]) (fun h=>by rw[if_neg h])⟩
  by_cases hc:u≤r1 D[i]
  ·have z2:decide (u > r1 D[i])=false:=Ga (by omega)
   rw[if_pos hc]
   simp -implicitDefEqProofs only[ie,SX,sevalprocAttr,Yg,Vs,NG,l4,c40,hrun,z1,a1,z2,r31,r3,b0,ld]
  ·have z2:decide (u > r1 D[i])=true:=Fa (by omega)
   rw[if_neg hc]
   simp -implicitDefEqProofs only[ie,SX,sevalprocAttr,Yg,Vs,NG,l4,c40,hrun,z1,a1,z2,r31,r3,b0,ld]
 ·have hf:(if h:i < D.length then decide (r0 D[i]=u) else false)=false:=by
   by_cases h:i < D.length
   ·rw[dif_pos h];exact Ga fun e=>his ⟨h,e⟩
   ·rw[dif_neg h]
  rw[hf] at hrun
  have w1:IntKind.i64.wrap ((i:Int) - 1)=(i:Int) - 1:=Ca (by omega)
  cases i with
  |zero=>
   have z1:decide ((-1:Int) < 0)=true:=rfl
   have w1:IntKind.i64.wrap (-1)= -1:=Ca (by decide)
   have hrun:Ri (Ea ue 7) mb [.pv RW,.pv (i64 u),.Fk 41 []] [.box [.pv (i64 0),.pv (i64 0),.pv (i64 0)]]=some (.pv (.mc [i64 0,.bool false]),[.box [.pv (i64 0),.pv (i64 0),.pv (i64 0)]]):=hrun
   refine⟨.mc [.agg [i64 0,i64 0,i64 0],.bool false],?_,.inr ⟨fun s hs hh=> ?_,rfl⟩⟩
   ·simp -implicitDefEqProofs only[ie,SX,sevalprocAttr,Yg,Vs,NG,l4,c40,hrun,w1,z1,b0,ld]
   ·obtain⟨j,hj,rfl⟩:=List.getElem_of_mem hs
    obtain⟨m,hm,hmr⟩:=List.getElem_of_mem (hDh j hj)
    have h6:=hb m hm (Nat.zero_le _)
    have hne:r0 D[m]≠u:=by
     intro e
     have h7:=hb 0 (by omega) (Nat.le_refl _)
     have h8:r0 D[0]≤r0 D[m]:=by
      rcases Nat.eq_zero_or_pos m with h9 | h9
      ·subst h9;exact Int.le_refl _
      ·exact hDs 0 m h9 hm
     exact his ⟨by omega,by omega⟩
    rw[hmr] at h6 hne
    have h6:u≤ss[j].first:=h6
    have hne:ss[j].first≠u:=hne
    unfold has at hh;omega
  |succ i=>
   have h:i < D.length:=by omega
   have w2:((i+1:Nat):Int) - 1=(i:Int):=by omega
   rw[w2] at w1
   have z1:decide ((i:Int) < 0)=false:=Ga (by omega)
   have a1:=rz hRW hDr h
   have hlt:=ha i h (by omega)
   have hgt:∀ q (hq:q < D.length),i < q→u < r0 D[q]:=by
    intro q hq hiq
    have h6:=hb q hq (by omega)
    rcases Int.lt_or_le u (r0 D[q]) with h5 | h5
    ·exact h5
    ·exfalso
     have h7:=hb (i+1) (by omega) (Nat.le_refl _)
     have h8:r0 D[i+1]≤r0 D[q]:=by
      rcases Nat.lt_or_ge (i+1) q with h9 | h9
      ·exact hDs (i+1) q h9 hq
      ·have:i+1=q:=by omega
       subst this;exact Int.le_refl _
     exact his ⟨by omega,by omega⟩
   refine⟨_,?_,step i h hgt (by omega) (if u≤r1 D[i] then .mc [.agg [i64 (r0 D[i]),i64 (r1 D[i]),i64 (r2 D[i])],.bool true] else .mc [.agg [i64 0,i64 0,i64 0],.bool false]) (fun h=>by rw[if_pos h]) (fun h=>by rw[if_neg h])⟩
   by_cases hc:u≤r1 D[i]
   ·have z2:decide (u > r1 D[i])=false:=Ga (by omega)
    rw[if_pos hc]
    simp -implicitDefEqProofs only[ie,SX,sevalprocAttr,Yg,Vs,NG,l4,c40,hrun,w1,w2,z1,a1,z2,r31,r3,b0,ld]
   ·have z2:decide (u > r1 D[i])=true:=Fa (by omega)
    rw[if_neg hc]
    simp -implicitDefEqProofs only[ie,SX,sevalprocAttr,Yg,Vs,NG,l4,c40,hrun,w1,w2,z1,a1,z2,r31,r3,b0,ld]
end
end Go.AM.B1
namespace Go.AM.B1
open Go.AM Go.AM.So
def BB (u:Int):List Lb→Option (List Int)
 | []=>none
 |s::r=>if s.first≤u∧u < s.first+Ha s.parts then some (Vd s.parts (u - s.first)) else BB u r
theorem GD {u:Int}:∀ {ss:List Lb} {b:List Int},(∀ s∈ss,Dd s)→BB u ss=some b→∃ s∈ss,s.first≤u∧u < s.first+Ha s.parts∧b=Vd s.parts (u - s.first)∧Lf s b=some (u - s.first)∧(∀ x∈b,0≤x∧x≤255)∧b≠[]
 |s::r,b,h,he=>by
  rw[BB] at he
  split at he
  ·next hc=>
   injection he with he;subst he
   have hs:=h s (by simp)
   obtain⟨h1,h2,h3⟩:=mw s.parts (u - s.first) 0 hs.parts (by omega) (by omega)
   refine⟨s,by simp,hc.1,hc.2,rfl,?_,h3,?_⟩
   ·unfold Lf;rw[if_pos h2,h1,Int.zero_add]
   ·intro h4;rw[h4] at h2;have:=hs.lo;simp at h2;omega
  ·obtain⟨s',h1,h2⟩:=GD (fun x hx=>h x (by simp[hx])) he
   exact⟨s',by simp[h1],h2⟩
abbrev AG (S:PV) (n i u:Int):Tr:=(((Tr.lf.set 12 (.pv (i64 i))).set 11 (.pv (i64 n))).set 10 (.pv S)).set 1 (.pv (i64 u))
def JI (o:Option (List Int)):PV:=match o with
 |some b=> .lit 1 (b.map (PV.int .u8))
 |none=> .ma
theorem TC {S:PV} {ss:List Lb} {es:List PV} (hS:eb S ss es) (Ba:Tb ss) {u:Int} (hu:u≤9223372036854775807):mo [.agg [S],i64 u]=some (JI (BB u ss)):=by
 have hS1:(AV.pv S).one=true:=by rcases hS.is with⟨h,_⟩ | h <;> rw[h] <;> rfl
 have lA:=hS.Vb
 have hm:=hS.sz
 have hloop:Gd (fun r=>∃ E H,(r=(.exit 0,⟨E,H⟩)∧BB u ss=none)∨(r=(.ret,⟨E,H⟩)∧E.get 4= .pv (JI (BB u ss))))
  (ab (ga (ua (Ea (fun _=>none) 8) Oh) (fa 0 [1,10,11,12])) qa ⟨AG S ss.length 0 u,[]⟩):=by
  refine za (wb (fun i t=>t=⟨AG S ss.length i u,[]⟩∧BB u ss=BB u (ss.drop i))
   ss.length (by unfold qa;unfold maxLen at hm;omega) _ ⟨rfl,rfl⟩ ?_ ?_) (fun r h=>h.2)
  ·rintro i t hi ⟨rfl,hs⟩
   obtain⟨P,ps,hP,a1⟩:=hS.sd hi
   have hsk:=Ba.Xo _ (List.getElem_mem hi)
   have hur:=KM hP hsk (u - ss[i].first)
   have hP1:=hP.Pv.1
   have e1:decide ((i:Int) < (ss.length:Int))=true:=Fa (by omega)
   have t2:=Ua hi hm
   have hdr:ss.drop i=ss[i]::ss.drop (i+1):=List.drop_eq_getElem_cons hi
   rw[hdr,BB] at hs
   have hf0:=hsk.f0
   generalize ss[i]=s at *
   have s1:Oa [.box [.pv .ma,.pv (i64 0)]] 2 (.ptr 0 0) (.pv (.agg [P,i64 s.first]))=some [.box [.pv P,.pv (i64 s.first)]]:=vj _ _ _ _ hP1 rfl [] _ rfl
   have p1:place [.box [.pv P,.pv (i64 s.first)]] 1 (.ptr 0 0)=some (.ptr 0 1):=rfl
   have l1:xa [.box [.pv P,.pv (i64 s.first)]] false 1 (.ptr 0 1)=some (.pv (i64 s.first)):=rfl
   have l2:xa [.box [.pv P,.pv (i64 s.first)]] true 2 (.ptr 0 0)=some (.pv (.agg [P,i64 s.first])):=rfl
   generalize hQ:LN _ _ i=QQ
   by_cases c1:u < s.first
   ·rw[if_neg (by omega)] at hs
    have d1:decide (u < s.first)=true:=Fa c1
    simp -implicitDefEqProofs only[SX,sevalprocAttr,Oh,e1,t2,a1,oc,s1,l2,p1,l1,d1,fa,Aa,AV.cut,na,List.take_zero,pa,AG]
    subst hQ
    exact⟨rfl,hs⟩
   ·have d1:decide (u < s.first)=false:=Ga c1
    have t3:IntKind.i64.wrap (u - s.first)=u - s.first:=Ca (by omega)
    by_cases c2:u < s.first+Ha s.parts
    ·rw[if_pos ⟨by omega,c2⟩] at hs
     have hr:=hur.2 (by omega) (by omega)
     simp -implicitDefEqProofs only[SX,sevalprocAttr,Oh,e1,t3,a1,oc,s1,l2,p1,l1,d1,hr,AG]
     subst hQ
     exact⟨_,_,.inr ⟨rfl,by rw[hs];simp[Tr.aa,JI]⟩⟩
    ·rw[if_neg (by omega)] at hs
     have hr:=hur.1 (.inr (by omega))
     simp -implicitDefEqProofs only[SX,sevalprocAttr,Oh,e1,t2,t3,a1,oc,s1,l2,p1,l1,d1,hr,fa,Aa,AV.cut,na,List.take_zero,pa,AG]
     subst hQ
     exact⟨rfl,hs⟩
  ·rintro t ⟨rfl,hs⟩
   rw[List.drop_length,BB] at hs
   have e1:decide ((ss.length:Int) < (ss.length:Int))=false:=Ga (by omega)
   generalize hQ:(fun r:Ex×St=>r.1.stop=true∧_)=Q
   simp -implicitDefEqProofs only[SX,sevalprocAttr,Oh,e1,AG]
   subst hQ
   exact⟨rfl,_,_,.inl ⟨rfl,hs⟩⟩
 apply Yk
 have hen:(AV.pv (JI (BB u ss))).one=true:=by unfold JI;cases BB u ss <;> rfl
 simp -implicitDefEqProofs only[mo,SX,sevalprocAttr,Zr,hS1,Nb,Ta,lA,xb,fa,Aa,AV.cut,na,List.take_zero,pa]
 refine za hloop ?_
 rintro r ⟨E,H,⟨rfl,hn⟩ | ⟨rfl,h4⟩⟩
 ·rw[hn]
  simp -implicitDefEqProofs only[SX,sevalprocAttr,JI]
 ·generalize JI (BB u ss)=v at *
  simp -implicitDefEqProofs only[SX,sevalprocAttr,h4]
theorem gC {S:PV} {ss:List Lb} {es:List PV} (hS:eb S ss es) {u:Int} (hu:u≤9223372036854775807):
 (¬ Tb ss→Tf [.agg [S],i64 u]=some (.mc [.ma,i64 84]))∧
 (Tb ss→BB u ss=none→Tf [.agg [S],i64 u]=some (.mc [.ma,i64 100]))∧
 (Tb ss→∀ b,BB u ss=some b→Tf [.agg [S],i64 u]=some (.mc [.lit 1 (b.map (PV.int .u8)),i64 0])):=by
 obtain⟨b,hb,hb'⟩:=Nh hS
 have hS1:(AV.pv S).one=true:=by rcases hS.is with⟨h,_⟩ | h <;> rw[h] <;> rfl
 refine⟨fun hn=> ?_,fun Ba he=> ?_,fun Ba c he=> ?_⟩
 ·have:b=false:=by cases b with | false=>rfl | true=>exact absurd (hb'.1 rfl) hn
  subst this
  simp -implicitDefEqProofs only[Tf,SX,sevalprocAttr,Kl,hS1,zc,hb]
 ·have:b=true:=hb'.2 Ba
  subst this
  have hr:=TC hS Ba hu
  rw[he] at hr
  simp -implicitDefEqProofs only[Tf,SX,sevalprocAttr,Kl,hS1,zc,hb,hr,JI,Vs]
 ·have:b=true:=hb'.2 Ba
  subst this
  have hr:=TC hS Ba hu
  rw[he] at hr
  simp -implicitDefEqProofs only[Tf,SX,sevalprocAttr,Kl,hS1,zc,hb,hr,JI,Vs]
end Go.AM.B1
namespace Go.AM.B1
open Go.AM Go.AM.So
theorem UO {u:Int}:∀ {ss:List Lb},(∀ s∈ss,¬has s u)→BB u ss=none
 | [],_=>rfl
 |s::ss,h=>by
  have h1:=h s (by simp)
  unfold has at h1
  rw[BB,if_neg h1]
  exact UO fun x hx=>h x (by simp[hx])
theorem zU {u:Int} {ss:List Lb} (Ba:Tb ss) {j:Nat} (hj:j < ss.length) (h:has ss[j] u):BB u ss=some (Vd ss[j].parts (u - ss[j].first)):=by
 have key:∀ (l:List Lb) (j:Nat) (hj:j < l.length),(∀ i (hi:i < l.length),has l[i] u→i=j)→has l[j] u→BB u l=some (Vd l[j].parts (u - l[j].first)):=by
  intro l
  induction l with
  |nil=>intro j hj;simp at hj
  |cons s l ih=>
   intro j hj hone hh
   rw[BB]
   cases j with
   |zero=>rw[if_pos (show s.first≤u∧u < s.first+Ha s.parts from hh)];rfl
   |succ j=>
    rw[if_neg (fun hc:s.first≤u∧u < s.first+Ha s.parts=>by have:=hone 0 (by simp) hc;omega)]
    exact ih j (by simpa using hj) (fun i hi hx=>by have:=hone (i+1) (by simpa using hi) hx;omega) hh
 exact key ss j hj (fun i hi hx=>bJ Ba hi hj hx h) h
section
variable {T:PV} {ss:List Lb} {l:List (List ze)} (hT:Bo T ss l) (Ba:Tb ss)
include hT Ba
theorem YS (u:Int):Hi [T,i64 u]=some (match BB u ss with | some b=> .mc [.lit 1 (b.map u8),.bool true] | none=> .mc [.ma,.bool false]):=by
 have hrow:=KS hT Ba u
 obtain⟨S',NX,DG,RW,rfl,_,_,hDG,_⟩:=hT.ex
 have hrp:=Ew (a:=S') (b:=qj l) (c:=NX) (d:=DG) (e:=RW) (f:=i64 (Xe ss))
 have l3:=fun H=>(hrp H).2.1
 generalize ([S',qj l,NX,DG,RW,i64 (Xe ss)]:List PV)=R at *
 have st:∀ a b c,Oa [ba.box [.pv (i64 0),.pv (i64 0),.pv (i64 0)]] 3 (.ptr 0 0) (.pv (.agg [i64 a,i64 b,i64 c]))=some [.box [.pv (i64 a),.pv (i64 b),.pv (i64 c)]]:=fun a b c=>rfl
 rcases hrow with⟨j,hj,hh,hr⟩ | ⟨hn,hr⟩
 ·rw[zU Ba hj hh]
  have hs:=Ba.Xo _ (List.getElem_mem hj)
  have hh':=hh
  unfold has at hh'
  have hun:=bF hs (k:=u - ss[j].first) (by omega) (by omega)
  have hf0:=hs.f0
  have hl:=hs.yh
  have hl2:=hs.last
  have a1:∀ H,wa H 1 (.pv DG) (j:Int)=some (.pv (.rp [Ni ss[j].parts] 0)):=fun H=>by
   rw[hDG.lit (i:=j) (by simpa using hj)]
   simp only[wa]
   rw[if_pos ⟨trivial,by unfold Ia;rw[List.length_map];omega⟩,Int.toNat_natCast,List.getElem?_map,List.getElem?_eq_getElem hj];rfl
  generalize ss[j]=s at *
  have w1:IntKind.i64.wrap (u - s.first)=u - s.first:=Ca (by omega)
  have p0:∀ a b c d,place [ba.box [.pv a,.pv b,.pv c]] d (.ptr 0 0)=some (.ptr 0 (0+d)):=fun a b c d=>rfl
  have q2:∀ a b c,xa [ba.box [.pv a,.pv b,.pv c]] false 1 (.ptr 0 2)=some (.pv c):=fun a b c=>rfl
  have q0:∀ a b c,xa [ba.box [.pv a,.pv b,.pv c]] false 1 (.ptr 0 0)=some (.pv a):=fun a b c=>rfl
  simp -implicitDefEqProofs only[Hi,SX,sevalprocAttr,bl,hr,st,NG,l3,p0,q2,q0,a1,Ta,w1,hun]
 ·rw[UO hn]
  simp -implicitDefEqProofs only[Hi,SX,sevalprocAttr,bl,hr,st]
def Lx (bs:List Int):List Lb→Option Int
 | []=>none
 |s::ss=>match Lf s bs with
  |some k=>some (s.first+k)
  |none=>Lx bs ss
omit hT Ba in
theorem CR {bs:List Int} {ss:List Lb} {i:Nat} (hi:i < ss.length):Lx bs (ss.drop i)=match Lf ss[i] bs with | some k=>some (ss[i].first+k) | none=>Lx bs (ss.drop (i+1)):=by
 rw[List.drop_eq_getElem_cons hi,Lx]
theorem hU {B:PV} {bs:List Int} (hB:Wi B bs):Ei [T,B]=some (match Lx bs ss with | some v=> .mc [i64 v,.bool true] | none=> .mc [i64 0,.bool false]):=by
 obtain⟨S',NX,DG,RW,rfl,hS',_,hDG,_⟩:=hT.ex
 have hrp:=Ew (a:=S') (b:=qj l) (c:=NX) (d:=DG) (e:=RW) (f:=i64 (Xe ss))
 have l3:=fun H=>(hrp H).2.1
 have l0:=fun H=>(hrp H).2.2.2.2.1
 generalize ([S',qj l,NX,DG,RW,i64 (Xe ss)]:List PV)=R at *
 have lD:=hDG.len
 rw[List.length_map] at lD
 have h32:=Ba.len
 have hB1:=hB.one
 obtain⟨D,hD⟩:∃ D,D=Lx bs ss:=⟨_,rfl⟩
 rw[← hD]
 have hloop:=fun (E:Tr) (h0:E.get 0= .pv (.rp R 0)) (h1:E.get 1= .pv B) (h15:E.get 15= .pv DG) (h16:E.get 16= .pv (i64 ss.length)) (h17:E.get 17= .pv (i64 0))=>
  Qn (call:=Ea (fun _=>none) 8) (b:=Nf) (live:=[0,1,15,16,17]) (s:=⟨E,[]⟩) (Q:=fun r=>(∃ E',r=(.exit 0,⟨E',[]⟩)∧D=none)∨∃ E' v,r=(.ret,⟨E',[]⟩)∧E'.get 4= .pv (i64 v)∧E'.get 5= .pv (.bool true)∧D=some v)
   (fun i t=>Td [0,1,15,16] E t.env∧t.env.get 17= .pv (i64 i)∧t.H=[]∧D=Lx bs (ss.drop i)) ss.length (by unfold qa;omega)
   (Tg.all rfl (by simp) (Fit.cons h0 Ma (.cons h1 Ma (.cons h15 Ma (.cons h16 Ma (.cons h17 Ma (.nil _ _)))))) fun E' hE=>⟨Td.sub hE rfl,by rw[hE 17 (by simp),h17];rfl,rfl,hD⟩)
   (by
    rintro i ⟨E1,H1⟩ hi ⟨k1,k2,k3,k5⟩
    simp only at k1 k2 k3
    subst k3
    have g0:=(k1 0 (by simp)).trans h0
    have g1:=(k1 1 (by simp)).trans h1
    have g15:=(k1 15 (by simp)).trans h15
    have g16:=(k1 16 (by simp)).trans h16
    have hs:=Ba.Xo _ (List.getElem_mem hi)
    have hrk:=LI hB hs
    rw[CR hi] at k5
    have hdc:(Ni ss[i].parts).cells=[Ni ss[i].parts]:=rfl
    have a1:∀ H,wa H 1 (.pv DG) (i:Int)=some (.pv (.rp [Ni ss[i].parts] 0)):=fun H=>by
     rw[hDG.lit (i:=i) (by simpa using hi)]
     simp only[wa]
     rw[if_pos ⟨trivial,by unfold Ia;rw[List.length_map];omega⟩,Int.toNat_natCast,List.getElem?_map,List.getElem?_eq_getElem hi];rfl
    have a2:∀ H,wa H 2 (.pv S') (i:Int)=some (.pv (.rp [.lit 1 (ss[i].parts.map oe),i64 ss[i].first] 0)):=fun H=>by
     rw[hS'.lit (i:=i) (by simpa using hi)]
     simp only[wa]
     rw[if_pos ⟨trivial,by unfold Ia;rw[List.length_map];omega⟩,Int.toNat_natCast,List.getElem?_map,List.getElem?_eq_getElem hi];rfl
    have hrb:=fun k hk=>Hw (b:=bs) (k:=k) hs hk
    generalize ss[i]=s at *
    have hf0:=hs.f0
    have e1:decide ((i:Int) < (ss.length:Int))=true:=Fa (by omega)
    have t1:IntKind.i64.wrap ((i:Int)+1)=((i+1:Nat):Int):=ym (by omega)
    generalize hQ:RQ _ _ _ _=Q
    cases hrs:Lf s bs with
    |some k=>
     rw[hrs] at k5
     have hr1:=hrk.1 k hrs
     have hb:=hrb k hrs
     have w1:IntKind.i64.wrap (s.first+k)=s.first+k:=Ca (by omega)
     simp -implicitDefEqProofs only[SX,sevalprocAttr,Nf,g0,g1,g15,g16,k2,e1,a1,a2,Ta,NG,l0,cj,hr1,w1]
     subst hQ
     exact .inr ⟨_,_,rfl,by simp[Tr.aa],by simp[Tr.aa],k5⟩
    |none=>
     rw[hrs] at k5
     have hr1:=hrk.2 hrs
     simp -implicitDefEqProofs only[SX,sevalprocAttr,Nf,g0,g1,g15,g16,k2,e1,a1,Ta,hr1,t1]
     subst hQ
     rw[Xl]
     generalize hEE:(Tr.set _ 17 _:Tr)=E2
     have kk:Td [0,1,15,16] E E2:=by
      rw[← hEE]
      repeat refine Td.set ?_ rfl
      exact k1
     have z17:E2.get 17= .pv (i64 (i+1:Nat)):=by rw[← hEE];simp[Tr.aa]
     exact Tg.all rfl (by simp) (Fit.sub (.cons z17 Ma (Fit.Je (l:=[0,1,15,16]) (.cons h0 Ma (.cons h1 Ma (.cons h15 Ma (.cons h16 Ma (.nil _ _))))) kk)) rfl) fun E' hE=>⟨kk.trans (Td.sub hE rfl),by rw[hE 17 (by simp),z17],rfl,k5⟩)
   (by
    rintro⟨E1,H1⟩ ⟨k1,k2,k3,k5⟩
    simp only at k1 k2 k3
    subst k3
    have g16:=(k1 16 (by simp)).trans h16
    rw[List.drop_length] at k5
    have e1:decide ((ss.length:Int) < (ss.length:Int))=false:=Ga (by omega)
    generalize hQ:(fun r:Ex×St=>r.1.stop=true∧_)=Q
    simp -implicitDefEqProofs only[SX,sevalprocAttr,Nf,g16,k2,e1]
    subst hQ
    exact⟨rfl,.inl ⟨_,rfl,k5⟩⟩)
 refine Yk ?_
 generalize hQ:(fun x:PV=>x=_)=Q
 simp -implicitDefEqProofs only[Ei,SX,sevalprocAttr,Mk,Vs,NG,l3,lD]
 generalize hEE:(Tr.set _ 17 _:Tr)=E
 refine za (hloop E (by rw[← hEE];simp[Tr.aa]) (by rw[← hEE];simp[Tr.aa]) (by rw[← hEE];simp[Tr.aa]) (by rw[← hEE];simp[Tr.aa]) (by rw[← hEE];simp[Tr.aa])) ?_
 rintro r ⟨_,⟨E',rfl,z1⟩ | ⟨E',v,rfl,z4,z5,z6⟩⟩
 ·simp -implicitDefEqProofs only[SX,sevalprocAttr]
  subst hQ
  rw[z1]
 ·simp -implicitDefEqProofs only[SX,sevalprocAttr,z4,z5]
  subst hQ;rw[z6]
omit Ba in
theorem nS:vf [T]=some (i64 (Xe ss)):=by
 obtain⟨S',NX,DG,RW,rfl,_⟩:=hT.ex
 have hrp:=Ew (a:=S') (b:=qj l) (c:=NX) (d:=DG) (e:=RW) (f:=i64 (Xe ss))
 have l5:=fun H=>(hrp H).2.2.2.1
 generalize ([S',qj l,NX,DG,RW,i64 (Xe ss)]:List PV)=R at *
 simp -implicitDefEqProofs only[vf,SX,sevalprocAttr,lk,Vs,NG,l5]
end
end Go.AM.B1
