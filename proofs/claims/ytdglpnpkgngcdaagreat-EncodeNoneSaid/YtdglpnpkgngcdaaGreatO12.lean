/- What functions of the program compute. -/
import Derived.Test.YtdglpnpkgngcdaaGreatO11
import Derived.Test.YtdglpnpkgngcdaaGreatO3
import Derived.Test.YtdglpnpkgngcdaaGreatO10
set_option linter.unusedVariables false
set_option linter.unusedSimpArgs false
namespace Go.AM.B1
open Go.AM Go.AM.So
theorem UD (l:List Int) (n:Nat):(vf l).all (AV.Qe n deep)=true:=by
 rw[List.all_eq_true];intro x hx
 obtain⟨y,_,rfl⟩:=List.mem_map.1 hx
 rfl
theorem tR {V S':PV} {y:Bool} {a b:Int} (nl:Bool) (ds:List PV) (D:List (List Int)) (fl:Nat) (nr:Bool) (m:Int):
 Fe (vw (.box [.pv V]) (.box [.pv (.bool y),.pv (i64 a),.pv (i64 b)]) (.tok 256 0 true) (.pv S') (.pv V) (.uq 3 true 256 []) nl ds D fl nr m):=by
 intro n hn o ho
 have hn:6≤n:=hn
 simp only[vw,List.mem_cons,List.not_mem_nil,or_false] at ho
 rcases ho with rfl | rfl | rfl | rfl | rfl | rfl
 ·exact sj n [V]
 ·exact sj n [.bool y,i64 a,i64 b]
 ·simp only[oa,Oa,Ga,Vk (show 3 < n by omega),Vk (show 4 < n by omega),aM (show 5 < n by omega),Option.bind_some,Option.map_some]
 ·rfl
 ·rfl
 ·simp only[oa,UD,if_true]
theorem XP {V S':PV} {y:Bool} {a b m:Int} {nl:Bool} {ds:List PV} {D:List (List Int)} {fl k:Nat} {nr:Bool} (nx:Bool) (es:List PV):
 Fe (Lu (.box [.pv V]) (.box [.pv (.bool y),.pv (i64 a),.pv (i64 b)]) (.tok 1 k nl) (.seq 3 true (vf D.flatten) fl nr) (.pv S') (.pv V) (.uq 4 nl 1 ds) (.own 5 k) (.pv (i64 m)) nx es):=by
 intro n hn o ho
 have hn:6≤n:=hn
 simp only[Lu,List.mem_cons,List.not_mem_nil,or_false] at ho
 rcases ho with rfl | rfl | rfl | rfl | rfl | rfl
 ·exact sj n [V]
 ·exact sj n [.bool y,i64 a,i64 b]
 ·simp only[oa,Oa,Ga,Vk (show 3 < n by omega),Vk (show 4 < n by omega),aM (show 5 < n by omega),Option.bind_some,Option.map_some]
 ·rfl
 ·rfl
 ·simp only[oa,UD,if_true]
theorem TQ {V S':PV} {o0 o1:ba} {m:Int} {nl nr nx:Bool} {ds es:List PV} {D:List (List Int)} {fl k:Nat} (hk:D.length=k) (hD:∀ r∈D,r.length=3) (h1:nl=true→ds=[]) (h2:nr=true→D=[]) (h3:nx=true→es=[]):
 ∃ NX DG RW,Vb (Lu o0 o1 (.tok 1 k nl) (.seq 3 true (vf D.flatten) fl nr) (.pv S') (.pv V) (.uq 4 nl 1 ds) (.own 5 k) (.pv (i64 m)) nx es) 5 (.ptr 2 0)=some (.rp [S',V,NX,DG,RW,i64 m] 0)∧
  Ai 256 NX es∧Ai 1 DG ds∧Ai 3 RW (D.map dG):=by
 refine⟨if nx then .ma else .lit 256 es,if nl then .ma else .lit 1 ds,if nr then .ma else .lit 3 (D.map dG),?_,?_,?_,?_⟩
 ·have hc:k * 3=(vf D.flatten).length∧(true||(3:Nat)==1)=true:=⟨by rw[List.length_map,sw hD,hk],rfl⟩
  have hm:Oa (Vb (Lu o0 o1 (.tok 1 k nl) (.seq 3 true (vf D.flatten) fl nr) (.pv S') (.pv V) (.uq 4 nl 1 ds) (.own 5 k) (.pv (i64 m)) nx es) 3) (vf D.flatten)=some (D.flatten.map i64):=by
   generalize Lu o0 o1 (.tok 1 k nl) (.seq 3 true (vf D.flatten) fl nr) (.pv S') (.pv V) (.uq 4 nl 1 ds) (.own 5 k) (.pv (i64 m)) nx es=H
   generalize D.flatten=F
   induction F with
   |nil=>rfl
   |cons x F ih=>
    show Oa (Vb H 3) (.pv (i64 x)::vf F)=_
    rw[Oa,ih];rfl
  have hch:chunk 3 true k (D.flatten.map i64)=D.map dG:=by
   have:=KB (sz:=3) (D:=D.map fun r=>r.map i64) (by
    intro r hr
    obtain⟨q,hq,rfl⟩:=List.mem_map.1 hr
    rw[List.length_map,hD q hq])
   rw[List.length_map,List.map_map,←List.map_flatten,hk] at this
   exact this
  have h5:(Lu o0 o1 (.tok 1 k nl) (.seq 3 true (vf D.flatten) fl nr) (.pv S') (.pv V) (.uq 4 nl 1 ds) (.own 5 k) (.pv (i64 m)) nx es)[5]? =some (.seq 3 true (vf D.flatten) fl nr):=rfl
  have hb:(Lu o0 o1 (.tok 1 k nl) (.seq 3 true (vf D.flatten) fl nr) (.pv S') (.pv V) (.uq 4 nl 1 ds) (.own 5 k) (.pv (i64 m)) nx es)[2]? =some (.box [.pv S',.pv V,.uq 3 nx 256 es,.uq 4 nl 1 ds,.own 5 k,.pv (i64 m)]):=rfl
  have ho:Vb (Lu o0 o1 (.tok 1 k nl) (.seq 3 true (vf D.flatten) fl nr) (.pv S') (.pv V) (.uq 4 nl 1 ds) (.own 5 k) (.pv (i64 m)) nx es) 4 (.own 5 k)=some (if nr then .ma else .lit 3 (D.map dG)):=by
   simp only[Vb,h5,if_pos hc,hm,Option.map_some,hch]
   cases nr <;> rfl
  generalize Lu o0 o1 (.tok 1 k nl) (.seq 3 true (vf D.flatten) fl nr) (.pv S') (.pv V) (.uq 4 nl 1 ds) (.own 5 k) (.pv (i64 m)) nx es=H at *
  show (match H[2]? with | some (.box cells)=>(Oa (Vb H 4) cells).map fun ps=>PV.rp ps 0 | _=>none)=_
  rw[hb]
  have hv:∀ p:PV,Vb H 4 (.pv p)=some p:=fun p=>rfl
  have hu:∀ id nl sz es,Vb H 4 (.uq id nl sz es)=some (if nl then .ma else .lit sz es):=fun _ _ _ _=>rfl
  simp only[Oa,hv,hu,ho,Option.bind_some,Option.map_some]
 ·cases nx with
  |false=>exact .inr rfl
  |true=>exact .inl ⟨rfl,h3 rfl⟩
 ·cases nl with
  |false=>exact .inr rfl
  |true=>exact .inl ⟨rfl,h1 rfl⟩
 ·cases nr with
  |false=>exact .inr rfl
  |true=>exact .inl ⟨rfl,by rw[h2 rfl];rfl⟩
theorem bR {ss:List ic} (h32:ss.length≤32) {H:List ba} {fl:Nat} {nr:Bool} (hH:H[5]? =some (.seq 3 true (vf (Xh ss ss.length).flatten) fl nr)):
 ch yq (fun _=>none) 8 34 [.own 5 ss.length,.uk 36 []] H=some (.pv (.yc []),H.set 5 (.seq 3 true (vf (Ii ss).flatten) (ss.length * 3) nr)):=by
 have e34:∀ (d:Nat) args H,ch yq (fun _=>none) (d+1) 34 args H=yy 3 0 36 args H:=fun d args H=>rfl
 rw[e34 7]
 have hl:(vf (Xh ss ss.length).flatten).length=ss.length * 3:=by rw[List.length_map,sw fun r hr=>mw hr,Po]
 simp only[yy,hH]
 rw[if_pos ⟨trivial,trivial,hl.symm,by omega⟩,Xs,Option.map_some,hl]
 have:=qy (D:=Xh ss ss.length) fun r hr=>mw hr
 rw[Po] at this
 rw[this];rfl
theorem gC {S:PV} {ss:List ic} {es:List PV} (hS:pb S ss es) (Aa:Lc ss) (hpre:Eg ss) {l:List (List Xe)} (ha:Kg ss=some l) {a b:Int} (hi:Fg [.agg [S]]=some (.yc [.agg [.bool true,i64 a,i64 b],i64 0])):
 ∃ T,Eb [.agg [S]]=some (.yc [T,i64 0])∧ru T ss l:=by
 have hS1:(AV.pv S).one=true:=by rcases hS.is with⟨h,_⟩ | h <;> rw[h] <;> rfl
 have hb:=(Th hS).2.2.2 Aa hpre l ha
 obtain⟨S',hcp,hS'⟩:=xC hS Aa
 have hS'1:(AV.pv S').one=true:=by rcases hS' with⟨h,_⟩ | h <;> rw[h] <;> rfl
 have lS:=hS.Qb
 obtain⟨k64,k256⟩:=zz ha
 have hst:=vC k64 k256
 have hV1:(AV.pv (Kk l)).one=true:=rfl
 have hVl:Ai 1 (Kk l) (l.map Ud):= .inr rfl
 have lV:=hVl.len
 rw[List.length_map] at lV
 have heo:=WC Aa hpre ha
 obtain⟨V,hVe⟩:∃ V,V=Kk l:=⟨_,rfl⟩
 rw[← hVe] at hb hst hV1 hVl lV
 have st:Ka [.box [.pv .ma]] 1 (.ptr 0 0) (.pv (.agg [V]))=some [.box [.pv V]]:=by simp[Ka,AV.cells,PV.cells,hV1,fa]
 have st2:Ka [.box [.pv V],.box [.pv (.bool false),.pv (i64 0),.pv (i64 0)]] 3 (.ptr 1 0) (.pv (.agg [.bool true,i64 a,i64 b]))=some [.box [.pv V],.box [.pv (.bool true),.pv (i64 a),.pv (i64 b)]]:=rfl
 have p2:∀ a b c d,place [a,.box [b,c,d]] 0 (.ptr 1 0)=some (.ptr 1 0):=fun a b c d=>rfl
 have l2:∀ a b c d,xa [a,.box [b,c,d]] false 1 (.ptr 1 0)=some b:=fun a b c d=>rfl
 have l3:xa [.box [.pv V],.box [.pv (.bool true),.pv (i64 a),.pv (i64 b)]] true 1 (.ptr 0 0)=some (.pv (.agg [V])):=rfl
 have z0:((0:Int)==0)=true:=rfl
 have z1:((0:Int) != 0)=false:=rfl
 have m1:fa [AV.pv PV.ma,.pv .ma,.pv .ma,.pv .ma,.pv .ma,.pv (.int .i64 0)] 0 [AV.pv S']=[.pv S',.pv .ma,.pv .ma,.pv .ma,.pv .ma,.pv (.int .i64 0)]:=rfl
 have m2:fa [AV.pv S',.pv .ma,.pv .ma,.pv .ma,.pv .ma,.pv (.int .i64 0)] 1 [AV.pv V]=[.pv S',.pv V,.pv .ma,.pv .ma,.pv .ma,.pv (.int .i64 0)]:=rfl
 have m3:Ad [AV.pv S',.pv V,.pv .ma,.pv .ma,.pv .ma,.pv (.int .i64 0)]=some [S',V,.ma,.ma,.ma,.int .i64 0]:=rfl
 have hz1:(0 < 256)=True:=by simp
 have hz2:(0 < 3)=True:=by simp
 have hz3:(0 < 1)=True:=by simp
 suffices key:Sd (fun r=>∃ T,r= .yc [T,i64 0]∧ru T ss l) (Eb [.agg [S]]) by
  obtain⟨r,h1,T,rfl,h2⟩:=uc key
  exact⟨T,h1,h2⟩
 generalize hQ:(fun r=>∃ T,r=PV.yc [T,i64 0]∧_)=Q
 simp -implicitDefEqProofs only[Eb,EA.eq_1,SX,sevalprocAttr,Qh,hS1,hV1,hS'1,Je,Xa,Zb,hb,hi,st,st2,p2,l2,l3,z0,z1,hcp,m1,m2,m3,OG,Ve,hz1,hz2,hz3,lS]
 generalize hEE:(Tr.set _ 48 _:Tr)=E
 have q4:E.get 4= .ptr 0 0:=by rw[← hEE];simp[Tr.aa]
 have q8:E.get 8= .ptr 2 0:=by rw[← hEE];simp[Tr.aa]
 have q46:E.get 46= .pv S:=by rw[← hEE];simp[Tr.aa]
 have q47:E.get 47= .pv (i64 ss.length):=by rw[← hEE];simp[Tr.aa]
 have q48:E.get 48= .pv (i64 0):=by rw[← hEE];simp[Tr.aa]
 refine ya (PT (call:=ch yq (fun _=>none) 8) (tR (V:=V) (S':=S') (y:=true) (a:=a) (b:=b)) hS Aa q4 q8 q46 q47 q48) ?_
 rintro r ⟨_,E2,nl,nr,rfl,g4,g8,hnl,hnr⟩
 have hdl:(ss.map fun s=>zj s.parts).length=ss.length:=by rw[List.length_map]
 have hrl:=Po ss ss.length
 have hDl:=UE ss
 have p5:∀ d,place (vw (.box [.pv V]) (.box [.pv (.bool true),.pv (i64 a),.pv (i64 b)]) (.tok 256 0 true) (.pv S') (.pv V) (.uq 3 true 256 []) nl (ss.map fun s=>zj s.parts) (Xh ss ss.length) 0 nr (mj ss)) d (.ptr 2 0)=some (.ptr 2 (0+d)):=fun d=>qe rfl d 0
 have l5:xa (vw (.box [.pv V]) (.box [.pv (.bool true),.pv (i64 a),.pv (i64 b)]) (.tok 256 0 true) (.pv S') (.pv V) (.uq 3 true 256 []) nl (ss.map fun s=>zj s.parts) (Xh ss ss.length) 0 nr (mj ss)) false 1 (.ptr 2 4)=some (.own 5 ss.length):=by
  rw[← hrl,Po]
  show some (AV.own 5 (Xh ss ss.length).length)=_
  rw[hrl]
 have hsort:=bR Aa.len (H:=vw (.box [.pv V]) (.box [.pv (.bool true),.pv (i64 a),.pv (i64 b)]) (.tok 256 0 true) (.pv S') (.pv V) (.uq 3 true 256 []) nl (ss.map fun s=>zj s.parts) (Xh ss ss.length) 0 nr (mj ss)) rfl
 have hHT:(vw (.box [.pv V]) (.box [.pv (.bool true),.pv (i64 a),.pv (i64 b)]) (.tok 256 0 true) (.pv S') (.pv V) (.uq 3 true 256 []) nl (ss.map fun s=>zj s.parts) (Xh ss ss.length) 0 nr (mj ss)).set 5 (.seq 3 true (vf (Ii ss).flatten) (ss.length * 3) nr)=Lu (.box [.pv V]) (.box [.pv (.bool true),.pv (i64 a),.pv (i64 b)]) (.tok 1 ss.length nl) (.seq 3 true (vf (Ii ss).flatten) (ss.length * 3) nr) (.pv S') (.pv V) (.uq 4 nl 1 (ss.map fun s=>zj s.parts)) (.own 5 ss.length) (.pv (i64 (mj ss))) true []:=by
  unfold vw Lu
  rw[hdl,hrl];rfl
 rw[hHT] at hsort
 have p6:∀ d,place (Lu (.box [.pv V]) (.box [.pv (.bool true),.pv (i64 a),.pv (i64 b)]) (.tok 1 ss.length nl) (.seq 3 true (vf (Ii ss).flatten) (ss.length * 3) nr) (.pv S') (.pv V) (.uq 4 nl 1 (ss.map fun s=>zj s.parts)) (.own 5 ss.length) (.pv (i64 (mj ss))) true []) d (.ptr 0 0)=some (.ptr 0 (0+d)):=fun d=>qe rfl d 0
 have l6:xa (Lu (.box [.pv V]) (.box [.pv (.bool true),.pv (i64 a),.pv (i64 b)]) (.tok 1 ss.length nl) (.seq 3 true (vf (Ii ss).flatten) (ss.length * 3) nr) (.pv S') (.pv V) (.uq 4 nl 1 (ss.map fun s=>zj s.parts)) (.own 5 ss.length) (.pv (i64 (mj ss))) true []) false 1 (.ptr 0 0)=some (.pv V):=rfl
 have hnx:=fun (E3:Tr) (r8:E3.get 8= .ptr 2 0) (r101:E3.get 101= .pv V) (r102:E3.get 102= .pv (i64 l.length)) (r103:E3.get 103= .pv (i64 0))=>
  YU (call:=ch yq (fun _=>none) 8) (XP (V:=V) (S':=S') (y:=true) (a:=a) (b:=b) (m:=mj ss) (nl:=nl) (ds:=ss.map fun s=>zj s.parts) (D:=Ii ss) (fl:=ss.length * 3) (k:=ss.length) (nr:=nr)) hVl k64 k256 heo r8 r101 r102 r103
 obtain⟨NX,hNX⟩:∃ x,x=fun nx=>Lu (.box [.pv V]) (.box [.pv (.bool true),.pv (i64 a),.pv (i64 b)]) (.tok 1 ss.length nl) (.seq 3 true (vf (Ii ss).flatten) (ss.length * 3) nr) (.pv S') (.pv V) (.uq 4 nl 1 (ss.map fun s=>zj s.parts)) (.own 5 ss.length) (.pv (i64 (mj ss))) nx (l.map rn):=⟨_,rfl⟩
 have hnx':=hnx
 generalize vw (.box [.pv V]) (.box [.pv (.bool true),.pv (i64 a),.pv (i64 b)]) (.tok 256 0 true) (.pv S') (.pv V) (.uq 3 true 256 []) nl (ss.map fun s=>zj s.parts) (Xh ss ss.length) 0 nr (mj ss)=HS at *
 simp -implicitDefEqProofs only[SX,sevalprocAttr,g4,g8,p5,l5,hsort,p6,l6,lV]
 generalize hEE3:(Tr.set _ 103 _:Tr)=E3
 refine ya (hnx E3 (by rw[← hEE3];simp[Tr.aa,g8]) (by rw[← hEE3];simp[Tr.aa]) (by rw[← hEE3];simp[Tr.aa]) (by rw[← hEE3];simp[Tr.aa])) ?_
 rintro r ⟨_,E4,nx,rfl,r8,hx⟩
 obtain⟨NX,DG,RW,t1,t2,t3,t4⟩:=TQ (V:=V) (S':=S') (o0:= .box [.pv V]) (o1:= .box [.pv (.bool true),.pv (i64 a),.pv (i64 b)]) (m:=mj ss) (nl:=nl) (nr:=nr) (nx:=nx) (ds:=ss.map fun s=>zj s.parts) (es:=l.map rn) (D:=Ii ss) (fl:=ss.length * 3) (k:=ss.length) hDl (fun r hr=>dA hr) (fun h=>by rw[hnl h];rfl) (fun h=>by have:=hDl;rw[hnr h] at this ⊢;exact List.eq_nil_of_length_eq_zero this) (fun h=>by rw[hx h];rfl)
 generalize Lu (.box [.pv V]) (.box [.pv (.bool true),.pv (i64 a),.pv (i64 b)]) (.tok 1 ss.length nl) (.seq 3 true (vf (Ii ss).flatten) (ss.length * 3) nr) (.pv S') (.pv V) (.uq 4 nl 1 (ss.map fun s=>zj s.parts)) (.own 5 ss.length) (.pv (i64 (mj ss))) nx (l.map rn)=HT at *
 have hm1:Uy [AV.ptr 2 0,.pv (.int .i64 0)]= .yc [.ptr 2 0,.pv (.int .i64 0)]:=rfl
 have htp:Vb HT 6 (.yc [.ptr 2 0,.pv (.int .i64 0)])=some (.yc [.rp [S',V,NX,DG,RW,i64 (mj ss)] 0,i64 0]):=by
  show (Oa (Vb HT 5) [AV.ptr 2 0,.pv (.int .i64 0)]).map PV.yc=_
  have hv:Vb HT 5 (.pv (.int .i64 0))=some (.int .i64 0):=rfl
  simp only[Oa,t1,hv,Option.bind_some,Option.map_some]
 simp -implicitDefEqProofs only[SX,sevalprocAttr,r8,DC,hm1,htp]
 subst hQ
 exact⟨_,rfl,⟨S',NX,DG,RW,by rw[hVe],hS',t2,t3,t4⟩⟩
theorem Qo {S:PV} {ss:List ic} {es:List PV} (hS:pb S ss es):∃ T n,Eb [.agg [S]]=some (.yc [T,i64 n])∧(n≠0→T= .Bf)∧
 (¬ Lc ss→n=84)∧(Lc ss→¬Eg ss→n=110)∧(Lc ss→Eg ss→¬Ll ss→n=111)∧(Lc ss→Eg ss→Ll ss→Kg ss=none→n=130)∧
 (∀ l,Lc ss→Eg ss→Ll ss→Kg ss=some l→n=0∧ru T ss l):=by
 have hb:=Th hS
 by_cases h1:Lc ss
 ·by_cases h2:Eg ss
  ·obtain⟨y,a,b,hi,hy⟩:=eL hS h1
   by_cases h3:Ll ss
   ·have:=hy.2 h3
    subst this
    cases h4:Kg ss with
    |none=>
     have:=NA hS (n:=130) (V:= .ma) rfl (.inr rfl) (.inl rfl) (hb.2.2.1 h1 h2 h4) hi
     exact⟨.Bf,130,this,fun _=>rfl,fun h=>absurd h1 h,fun _ h=>absurd h2 h,fun _ _ h=>absurd h3 h,fun _ _ _ _=>rfl,fun l _ _ _ h=>(by cases h)⟩
    |some l=>
     obtain⟨T,t1,t2⟩:=gC hS h1 h2 h4 hi
     refine⟨T,0,t1,fun h=>absurd rfl h,fun h=>absurd h1 h,fun _ h=>absurd h2 h,fun _ _ h=>absurd h3 h,fun _ _ _ h=>(by cases h),fun l' _ _ _ h=> ?_⟩
     injection h with h
     exact⟨rfl,h ▸ t2⟩
   ·have hyf:y=false:=by cases y with | false=>rfl | true=>exact absurd (hy.1 rfl) h3
    subst hyf
    have key:∃ n V,(AV.pv V).one=true∧(n=0∨n=130)∧Cc [.agg [S]]=some (.yc [.agg [V],i64 n]):=by
     cases h4:Kg ss with
     |none=>exact⟨130,.ma,rfl,.inr rfl,hb.2.2.1 h1 h2 h4⟩
     |some l=>exact⟨0,Kk l,rfl,.inl rfl,hb.2.2.2 h1 h2 l h4⟩
    obtain⟨n,V,k1,k2,k3⟩:=key
    have:=NA hS k1 k2 (.inr rfl) k3 hi
    exact⟨.Bf,111,this,fun _=>rfl,fun h=>absurd h1 h,fun _ h=>absurd h2 h,fun _ _ _=>rfl,fun _ _ h=>absurd h h3,fun l _ _ h=>absurd h h3⟩
  ·have:=YA hS (n:=110) (V:= .ma) rfl (by decide) (by decide) (hb.2.1 h1 h2)
   exact⟨.Bf,110,this,fun _=>rfl,fun h=>absurd h1 h,fun _ _=>rfl,fun _ h=>absurd h h2,fun _ h=>absurd h h2,fun l _ h=>absurd h h2⟩
 ·have:=YA hS (n:=84) (V:= .ma) rfl (by decide) (by decide) (hb.1 h1)
  exact⟨.Bf,84,this,fun _=>rfl,fun _=>rfl,fun h=>absurd h h1,fun h=>absurd h h1,fun h=>absurd h h1,fun l h=>absurd h h1⟩
theorem jP {S:PV} {ss:List ic} {es:List PV} (hS:pb S ss es):∃ T n,Eb [.agg [S]]=some (.yc [T,i64 n])∧
 ((n≠0∧T= .Bf)∨(n=0∧Lc ss∧Eg ss∧Ll ss∧∃ l,Kg ss=some l∧ru T ss l∧∀ e∈l,Qm e)):=by
 obtain⟨T,n,hc,hn,h1,h2,h3,h4,h5⟩:=Qo hS
 refine⟨T,n,hc,?_⟩
 by_cases h0:n=0
 ·refine .inr ⟨h0,?_⟩
  by_cases k1:Lc ss
  ·by_cases k2:Eg ss
   ·by_cases k3:Ll ss
    ·cases k4:Kg ss with
     |none=>have:=h4 k1 k2 k3 k4;omega
     |some l=>exact⟨k1,k2,k3,l,rfl,(h5 l k1 k2 k3 k4).2,WC k1 k2 k4⟩
    ·have:=h3 k1 k2 k3;omega
   ·have:=h2 k1 k2;omega
  ·have:=h1 k1;omega
 ·exact .inl ⟨h0,hn h0⟩
end Go.AM.B1
namespace Go.AM.B1
open Go.AM Go.AM.So
theorem nD {p q:ic} (op:Be p) (oq:Be q) (hle:p.parts.length≤q.parts.length):Ie p q=true↔∀ k (h1:k < p.parts.length) (h2:k < q.parts.length),∃ x,x < 256∧Bi p.parts[k] x=true∧Bi q.parts[k] x=true:=by
 have key:∀ (m i:Nat),i+m=p.parts.length→((Xb p.parts q.parts m i).isSome=true↔∀ k,i≤k→(h1:k < p.parts.length)→(h2:k < q.parts.length)→∃ x,x < 256∧Bi p.parts[k] x=true∧Bi q.parts[k] x=true):=by
  intro m
  induction m with
  |zero=>intro i hi;exact⟨fun _ k hk h1=>by omega,fun _=>rfl⟩
  |succ m ih=>
   intro i hi
   have h1:i < p.parts.length:=by omega
   have h2:i < q.parts.length:=by omega
   have hm:=Ax h1 h2 (op.parts _ (List.getElem_mem h1)).2 (oq.parts _ (List.getElem_mem h2)).2
   have hI:=ih (i+1) (by omega)
   rw[Xb]
   cases hmt:On p.parts q.parts i with
   |nil=>
    constructor
    ·intro h;cases h
    ·intro h;exact absurd hmt (hm.2 (h i (Nat.le_refl _) h1 h2))
   |cons a r=>
    simp only[Option.isSome_map]
    rw[hI]
    constructor
    ·intro h k hk g1 g2
     rcases Nat.lt_or_ge i k with h3 | h3
     ·exact h k h3 g1 g2
     ·have:k=i:=by omega
      subst this
      exact hm.1 (by rw[hmt];simp)
    ·intro h k hk;exact h k (by omega)
 have:=key p.parts.length 0 (by omega)
 unfold Ie
 rw[this]
 exact⟨fun h k h1 h2=>h k (by omega) h1 h2,fun h k _ h1 h2=>h k h1 h2⟩
theorem LC {p q:ic} (op:Be p) (oq:Be q) (h:p.parts.length=q.parts.length):Ie p q=Ie q p:=by
 rw[Bool.eq_iff_iff,nD op oq (by omega),nD oq op (by omega)]
 constructor
 ·intro k i h1 h2;obtain⟨x,a,b,c⟩:=k i h2 h1;exact⟨x,a,c,b⟩
 ·intro k i h1 h2;obtain⟨x,a,b,c⟩:=k i h2 h1;exact⟨x,a,c,b⟩
def JD (ss:List ic) (i j:Nat):Prop:=(hi:i < ss.length)→(hj:j < ss.length)→j < i→ss[i].parts.length=ss[j].parts.length→Ie ss[i] ss[j]=false
theorem DF {ss:List ic} (Aa:Lc ss):Ll ss↔∀ i j,JD ss i j:=by
 constructor
 ·intro h i j hi hj hlt he
  rw[LC (Aa.gw _ (List.getElem_mem hi)) (Aa.gw _ (List.getElem_mem hj)) he]
  exact h j i hj hi hlt he.symm
 ·intro h i j hi hj hlt he
  rw[LC (Aa.gw _ (List.getElem_mem hi)) (Aa.gw _ (List.getElem_mem hj)) he]
  exact h j i hj hi hlt he.symm
section
variable {S:PV} {ss:List ic} {es:List PV} (hS:pb S ss es) (Aa:Lc ss)
include hS Aa
theorem yG (call:Wa) {i:Nat} (hi:i < ss.length) {E:Tr} (h1:E.get 1= .pv (.rp [S] 0)) (h4:E.get 4= .pv (i64 i)) (h5:E.get 5= .pv (i64 0)):
 Sd (fun r=>r.1.stop=true∧((∃ E',r=(.exit 2,⟨E',[]⟩)∧Mc [1,4] E E'∧∀ j,JD ss i j)∨∃ E',r=(.ret,⟨E',[]⟩)∧E'.get 2= .pv (.bool false)∧E'.get 3= .pv (i64 0)∧¬Ll ss))
  (pa call (.loop [1,4,5] Cd) ⟨E,[]⟩):=by
 have h32:=Aa.len
 have ln:=hS.Qb
 obtain⟨P,ps,hP,a1⟩:=hS.Td hi
 have okp:=Aa.gw _ (List.getElem_mem hi)
 have lP:=hP.parts.Qb
 refine Ho (fun j t=>Mc [1,4] E t.env∧t.env.get 5= .pv (i64 j)∧t.H=[]∧∀ j',j' < j→JD ss i j') i (by unfold qa;omega)
  (cg.all rfl (by simp) (Fit.cons h1 Ga (.cons h4 Ga (.cons h5 Ga (.nil _ _)))) fun E' hE=>⟨Mc.sub hE rfl,by rw[hE 5 (by simp),h5];rfl,rfl,fun j h=>by omega⟩) ?_ ?_
 ·rintro j ⟨E1,H1⟩ hj ⟨k1,k5,k3,hs⟩
  simp only at k1 k5 k3
  subst k3
  have hjl:j < ss.length:=by omega
  have g1:=(k1 1 (by simp)).trans h1
  have g4:=(k1 4 (by simp)).trans h4
  obtain⟨Q,qs,hQ,a2⟩:=hS.Td hjl
  have okq:=Aa.gw _ (List.getElem_mem hjl)
  have hcm:=fun (h:ss[i].parts.length≤ss[j].parts.length)=>Kv hP hQ okp okq (n:=ss[i].parts.length) (Nat.le_refl _) h
  have lQ:=hQ.parts.Qb
  have hat:∀ b,(ss[i].parts.length=ss[j].parts.length→Ie ss[i] ss[j]=b)→b=false→∀ j',j' < j+1→JD ss i j':=by
   intro b hb hb0 j' hj'
   rcases Nat.lt_or_ge j' j with h3 | h3
   ·exact hs j' h3
   ·have:j'=j:=by omega
    subst this
    intro _ _ _ he
    rw[hb he,hb0]
  have hbad:ss[i].parts.length=ss[j].parts.length→Ie ss[i] ss[j]=true→¬Ll ss:=fun he hm h=>by
   have:=(DF Aa).1 h i j hi hjl hj he
   rw[hm] at this;cases this
  unfold Ie at hat hbad
  generalize ss[i]=p at *
  generalize ss[j]=q at *
  have e1:decide ((j:Int) < (i:Int))=true:=Fa (by omega)
  have t2:IntKind.i64.wrap ((j:Int)+1)=((j+1:Nat):Int):=xk (by omega)
  have fin:(∀ j',j' < j+1→JD ss i j')→∀ E2:Tr,Mc [1,4] E E2→E2.get 5= .pv (i64 (j+1:Nat))→cg ([]:List ba).length [1,4,5] (fun t=>Mc [1,4] E t.env∧t.env.get 5= .pv (i64 (j+1:Nat))∧t.H=[]∧∀ j',j' < j+1→JD ss i j') ⟨E2,[]⟩:=fun hn E2 kk z5=>
   cg.all rfl (by simp) (Fit.sub (.cons z5 Ga (Fit.Qe (l:=[1,4]) (.cons h1 Ga (.cons h4 Ga (.nil _ _))) kk)) rfl) fun E' hE=>⟨kk.trans (Mc.sub hE rfl),by rw[hE 5 (by simp),z5],rfl,hn⟩
  generalize hQQ:RQ _ _ _ _=QQ
  by_cases c1:p.parts.length=q.parts.length
  ·have d1:((p.parts.length:Int)==(q.parts.length:Int))=true:=by rw[c1];simp
   obtain⟨v,hv⟩:=hcm (by omega)
   cases hb:(Xb p.parts q.parts p.parts.length 0).isSome with
   |true=>
    rw[hb] at hv
    simp -implicitDefEqProofs only[SX,sevalprocAttr,Cd,g1,g4,k5,e1,Zb,Xa,Kc,wc,Cf,a1,a2,lP,lQ,d1,hv]
    subst hQQ
    exact .inr ⟨_,rfl,by simp[Tr.aa],by simp[Tr.aa],hbad c1 hb⟩
   |false=>
    rw[hb] at hv
    simp -implicitDefEqProofs only[SX,sevalprocAttr,Cd,g1,g4,k5,e1,t2,Zb,Xa,Kc,wc,Cf,a1,a2,lP,lQ,d1,hv]
    subst hQQ
    rw[Di]
    generalize hEE:(Tr.set _ 5 _:Tr)=E2
    refine fin (hat false (fun _=>hb) rfl) E2 (by rw[← hEE];(repeat refine Mc.set ?_ rfl);exact k1) (by rw[← hEE];simp[Tr.aa])
  ·have d1:((p.parts.length:Int)==(q.parts.length:Int))=false:=beq_false_of_ne (by omega)
   simp -implicitDefEqProofs only[SX,sevalprocAttr,Cd,g1,g4,k5,e1,t2,Zb,Xa,Kc,wc,Cf,a1,a2,lP,lQ,d1]
   subst hQQ
   rw[Di]
   generalize hEE:(Tr.set _ 5 _:Tr)=E2
   refine fin (hat false (fun h=>absurd h c1) rfl) E2 (by rw[← hEE];(repeat refine Mc.set ?_ rfl);exact k1) (by rw[← hEE];simp[Tr.aa])
 ·rintro⟨E1,H1⟩ ⟨k1,k5,k3,hs⟩
  simp only at k1 k5 k3
  subst k3
  have g4:=(k1 4 (by simp)).trans h4
  have e1:decide ((i:Int) < (i:Int))=false:=Ja (by omega)
  generalize hQ:(fun r:Ex×St=>r.1.stop=true∧_)=QQ
  simp -implicitDefEqProofs only[SX,sevalprocAttr,Cd,g4,k5,e1]
  subst hQ
  refine⟨rfl,.inl ⟨_,rfl,?_,fun j a b c=>hs j c a b c⟩⟩
  repeat refine Mc.set ?_ rfl
  exact k1
theorem ax:∃ b,te [.agg [S]]=some (.yc [.bool b,i64 0])∧(b=true↔Ll ss):=by
 have ln:=hS.Qb
 have hS1:(AV.pv S).one=true:=by rcases hS.is with⟨h,_⟩ | h <;> rw[h] <;> rfl
 obtain⟨b,hb,hbb⟩:=Uu hS
 have:=hbb.2 Aa
 subst this
 have h32:=Aa.len
 have hloop:=fun (E:Tr) (h1:E.get 1= .pv (.rp [S] 0)) (h4:E.get 4= .pv (i64 0))=>
  Ho (call:=Ba (fun _=>none) 8) (b:=Wf) (live:=[1,4]) (s:=⟨E,[]⟩) (Q:=fun r=>(∃ E',r=(.exit 0,⟨E',[]⟩)∧Ll ss)∨∃ E',r=(.ret,⟨E',[]⟩)∧E'.get 2= .pv (.bool false)∧E'.get 3= .pv (i64 0)∧¬Ll ss)
   (fun i t=>Mc [1] E t.env∧t.env.get 4= .pv (i64 i)∧t.H=[]∧∀ i',i' < i→∀ j,JD ss i' j) ss.length (by unfold qa;omega)
   (cg.all rfl (by simp) (Fit.cons h1 Ga (.cons h4 Ga (.nil _ _))) fun E' hE=>⟨Mc.sub hE rfl,by rw[hE 4 (by simp),h4];rfl,rfl,fun i h=>by omega⟩)
   (by
    rintro i ⟨E1,H1⟩ hi ⟨k1,k4,k3,hs⟩
    simp only at k1 k4 k3
    subst k3
    have g1:=(k1 1 (by simp)).trans h1
    have e1:decide ((i:Int) < (ss.length:Int))=true:=Fa (by omega)
    have t2:=Za hi (by unfold maxLen;omega)
    generalize hQQ:RQ _ _ _ _=QQ
    simp -implicitDefEqProofs only[SX,sevalprocAttr,Wf,g1,k4,ln,e1,Zb,Xa]
    generalize hEE:(Tr.set _ 5 _:Tr)=E2
    have z1:E2.get 1= .pv (.rp [S] 0):=by rw[← hEE];simp[Tr.aa,g1]
    have z4:E2.get 4= .pv (i64 i):=by rw[← hEE];simp[Tr.aa,k4]
    refine ya (yG hS Aa _ hi z1 z4 (by rw[← hEE];simp[Tr.aa])) ?_
    rintro _ ⟨_,⟨E3,rfl,k6,hp⟩ | ⟨E3,rfl,g2,g3,hp⟩⟩
    ·have y4:=(k6 4 (by simp)).trans z4
     simp -implicitDefEqProofs only[SX,sevalprocAttr,y4,t2]
     subst hQQ
     rw[Di]
     generalize hE4:(Tr.set _ 4 _:Tr)=E4
     have y1:E4.get 1= .pv (.rp [S] 0):=by rw[← hE4];simp[Tr.aa];exact (k6 1 (by simp)).trans z1
     have y4:E4.get 4= .pv (i64 (i+1:Nat)):=by rw[← hE4];simp[Tr.aa]
     exact cg.all rfl (by simp) (Fit.cons y1 Ga (.cons y4 Ga (.nil _ _))) fun E' hE=>⟨fun t ht=>by
      rw[List.mem_singleton] at ht;subst ht
      rw[hE 1 (by simp),y1,h1],by rw[hE 4 (by simp),y4],rfl,fun i' hi' j=>by
      rcases Nat.lt_or_ge i' i with h3 | h3
      ·exact hs i' h3 j
      ·have:i'=i:=by omega
       subst this;exact hp j⟩
    ·simp -implicitDefEqProofs only[SX,sevalprocAttr]
     subst hQQ
     exact .inr ⟨_,rfl,g2,g3,hp⟩)
   (by
    rintro⟨E1,H1⟩ ⟨k1,k4,k3,hs⟩
    simp only at k1 k4 k3
    subst k3
    have g1:=(k1 1 (by simp)).trans h1
    have e1:decide ((ss.length:Int) < (ss.length:Int))=false:=Ja (by omega)
    generalize hQ:(fun r:Ex×St=>r.1.stop=true∧_)=QQ
    simp -implicitDefEqProofs only[SX,sevalprocAttr,Wf,g1,k4,ln,e1,Zb,Xa]
    subst hQ
    exact⟨rfl,.inl ⟨_,rfl,(DF Aa).2 fun i j hi hj=>hs i hi j hi hj⟩⟩)
 have key:Sd (fun r=>∃ b,r=PV.yc [.bool b,i64 0]∧(b=true↔Ll ss)) (te [.agg [S]]):=by
  generalize hQQ:(fun r:PV=>_)=QQ
  simp -implicitDefEqProofs only[te,SX,sevalprocAttr,Hi,hS1,Zb,Xa,Je,hb]
  generalize hEE:(Tr.set _ 4 _:Tr)=E
  refine ya (hloop E (by rw[← hEE];simp[Tr.aa]) (by rw[← hEE];simp[Tr.aa])) ?_
  rintro _ ⟨_,⟨E',rfl,hp⟩ | ⟨E',rfl,g2,g3,hp⟩⟩
  ·simp -implicitDefEqProofs only[SX,sevalprocAttr]
   subst hQQ
   exact⟨true,rfl,by simpa using hp⟩
  ·simp -implicitDefEqProofs only[SX,sevalprocAttr,g2,g3]
   subst hQQ
   exact⟨false,rfl,by simpa using hp⟩
 obtain⟨r,h1,b,rfl,hb⟩:=uc key
 exact⟨b,h1,hb⟩
end
theorem KF {S V:PV} {ss:List ic} {es:List PV} (hS:pb S ss es) {m:Int} (hV:(AV.pv V).one=true) (hm:m=84∨m=110) (hb:Va [.agg [S]]=some (.yc [.agg [V],i64 m])):od [.agg [S]]=some (.yc [.agg [.ma],i64 m]):=by
 have hS1:(AV.pv S).one=true:=by rcases hS.is with⟨h,_⟩ | h <;> rw[h] <;> rfl
 have s1:Ka [.box [.pv .ma],.box [.pv .ma]] 1 (.ptr 1 0) (.pv (.agg [V]))=some [.box [.pv .ma],.box [.pv V]]:=by simp[Ka,AV.cells,PV.cells,hV,fa]
 have s0:Ka [.box [.pv .ma],.box [.pv V]] 1 (.ptr 0 0) (.pv (.agg [.ma]))=some [.box [.pv .ma],.box [.pv V]]:=rfl
 have ld:xa [.box [.pv .ma],.box [.pv V]] true 1 (.ptr 0 0)=some (.pv (.agg [.ma])):=rfl
 have z1:((84:Int)==84)=true:=rfl
 have z2:((110:Int)==84)=false:=rfl
 have z3:((110:Int)==110)=true:=rfl
 rcases hm with rfl | rfl <;>
 simp -implicitDefEqProofs only[od,SX,sevalprocAttr,wg,hS1,Je,hb,s1,s0,ld,z1,z2,z3]
theorem Sv {S V:PV} {ss:List ic} {es:List PV} (hS:pb S ss es) {m:Int} {b:Bool} (hV:(AV.pv V).one=true) (h1:m≠84) (h2:m≠110) (hb:Va [.agg [S]]=some (.yc [.agg [V],i64 m])) (hi:te [.agg [S]]=some (.yc [.bool b,i64 0])):
 od [.agg [S]]=some (.yc [.agg [if b then V else .ma],i64 (if b then m else 111)]):=by
 have hS1:(AV.pv S).one=true:=by rcases hS.is with⟨h,_⟩ | h <;> rw[h] <;> rfl
 have s1:Ka [.box [.pv .ma],.box [.pv .ma]] 1 (.ptr 1 0) (.pv (.agg [V]))=some [.box [.pv .ma],.box [.pv V]]:=by simp[Ka,AV.cells,PV.cells,hV,fa]
 have s0:Ka [.box [.pv .ma],.box [.pv V]] 1 (.ptr 0 0) (.pv (.agg [.ma]))=some [.box [.pv .ma],.box [.pv V]]:=rfl
 have s2:Ka [.box [.pv .ma],.box [.pv V]] 1 (.ptr 0 0) (.pv (.agg [V]))=some [.box [.pv V],.box [.pv V]]:=by simp[Ka,AV.cells,PV.cells,hV,fa]
 have ld:∀ W:PV,xa [.box [.pv W],.box [.pv V]] true 1 (.ptr 0 0)=some (.pv (.agg [W])):=fun W=>rfl
 have ld1:xa [.box [.pv .ma],.box [.pv V]] true 1 (.ptr 1 0)=some (.pv (.agg [V])):=rfl
 have z1:(m==84)=false:=beq_false_of_ne h1
 have z2:(m==110)=false:=beq_false_of_ne h2
 cases b <;>
 simp -implicitDefEqProofs only[od,SX,sevalprocAttr,wg,hS1,Je,hb,hi,s1,s0,s2,ld,ld1,z1,z2]
theorem xG (ss:List ic):∃ n V,(∀ (S:PV) (es:List PV),pb S ss es→od [.agg [S]]=some (.yc [.agg [V],i64 n]))∧(n=0→∃ l,Kg ss=some l∧V=Kk l)∧(AV.pv V).one=true∧
 (∀ (S:PV) (es:List PV),pb S ss es→∃ T,Eb [.agg [S]]=some (.yc [T,i64 n])∧((n≠0∧T= .Bf)∨(n=0∧Lc ss∧Eg ss∧Ll ss∧∃ l,Kg ss=some l∧ru T ss l∧∀ e∈l,Qm e))):=by
 obtain⟨VB,lB,m,hVB,_,_,hb1,hb2⟩:=zL ss
 have hval:∀ (S:PV) (es:List PV) (V':PV) (m':Int),pb S ss es→Cc [.agg [S]]=some (.yc [.agg [V'],i64 m'])→Va [.agg [S]]=some (.yc [.agg [V'],i64 m']):=by
  intro S es V' m' hS h
  rw[hb2 S es hS,←hb1 S es hS,h]
 have Df:∀ n:Int,(∀ (S:PV) (es:List PV),pb S ss es→∀ T k,Eb [.agg [S]]=some (.yc [T,i64 k])→k=n)→∀ (S:PV) (es:List PV),pb S ss es→∃ T,Eb [.agg [S]]=some (.yc [T,i64 n])∧((n≠0∧T= .Bf)∨(n=0∧Lc ss∧Eg ss∧Ll ss∧∃ l,Kg ss=some l∧ru T ss l∧∀ e∈l,Qm e)):=by
  intro n hn S es hS
  obtain⟨T,k,h1,h2⟩:=jP hS
  obtain rfl:=hn S es hS T k h1
  exact⟨T,h1,h2⟩
 have same:∀ {S:PV} {T T':PV} {k k':Int},Eb [.agg [S]]=some (.yc [T,i64 k])→Eb [.agg [S]]=some (.yc [T',i64 k'])→k=k':=by
  intro S T T' k k' h1 h2
  rw[h1] at h2
  injection h2 with h2
  injection h2 with h2
  injection h2 with _ h2
  injection h2 with h2 _
  injection h2
 have aut:Kg ss=none∨∃ l,Kg ss=some l:=by
  cases Kg ss with
  |none=>exact .inl rfl
  |some l=>exact .inr ⟨l,rfl⟩
 have one:∀ {l:List (List Xe)},(AV.pv (Kk l)).one=true:=fun {l}=>rfl
 by_cases h1:Lc ss
 ·by_cases h2:Eg ss
  ·by_cases h3:Ll ss
   ·rcases aut with h4 | ⟨l,h4⟩
    ·skip
     refine⟨130,.ma,fun S es hS=> ?_,fun h=>(by cases h),rfl,Df 130 fun S es hS T k hk=> ?_⟩
     ·obtain⟨b,i1,i2⟩:=ax hS h1
      have:=i2.2 h3
      subst this
      exact Sv hS rfl (by decide) (by decide) (hval S es _ _ hS ((Th hS).2.2.1 h1 h2 h4)) i1
     ·obtain⟨T',n,t1,_,_,_,_,t2,_⟩:=Qo hS
      have:=t2 h1 h2 h3 h4
      subst this
      exact same hk t1
    ·skip
     refine⟨0,Kk l,fun S es hS=> ?_,fun _=>⟨l,h4,rfl⟩,one,Df 0 fun S es hS T k hk=> ?_⟩
     ·obtain⟨b,i1,i2⟩:=ax hS h1
      have:=i2.2 h3
      subst this
      exact Sv hS one (by decide) (by decide) (hval S es _ _ hS ((Th hS).2.2.2 h1 h2 l h4)) i1
     ·obtain⟨T',n,t1,_,_,_,_,_,t2⟩:=Qo hS
      have:=(t2 l h1 h2 h3 h4).1
      subst this
      exact same hk t1
   ·refine⟨111,.ma,fun S es hS=> ?_,fun h=>(by cases h),rfl,Df 111 fun S es hS T k hk=> ?_⟩
    ·obtain⟨b,i1,i2⟩:=ax hS h1
     have hb:b=false:=by cases b with | false=>rfl | true=>exact absurd (i2.1 rfl) h3
     subst hb
     cases h4:Kg ss with
     |none=>exact Sv hS (V:= .ma) rfl (by decide) (by decide) (hval S es _ _ hS ((Th hS).2.2.1 h1 h2 h4)) i1
     |some l=>exact Sv hS one (by decide) (by decide) (hval S es _ _ hS ((Th hS).2.2.2 h1 h2 l h4)) i1
    ·obtain⟨T',n,t1,_,_,_,t2,_⟩:=Qo hS
     have:=t2 h1 h2 h3
     subst this
     exact same hk t1
  ·refine⟨110,.ma,fun S es hS=>KF hS (V:= .ma) rfl (.inr rfl) (hval S es _ _ hS ((Th hS).2.1 h1 h2)),fun h=>(by cases h),rfl,Df 110 fun S es hS T k hk=> ?_⟩
   obtain⟨T',n,t1,_,_,t2,_⟩:=Qo hS
   have:=t2 h1 h2
   subst this
   exact same hk t1
 ·refine⟨84,.ma,fun S es hS=>KF hS (V:= .ma) rfl (.inl rfl) (hval S es _ _ hS ((Th hS).1 h1)),fun h=>(by cases h),rfl,Df 84 fun S es hS T k hk=> ?_⟩
  obtain⟨T',n,t1,_,t2,_⟩:=Qo hS
  have:=t2 h1
  subst this
  exact same hk t1
end Go.AM.B1
namespace Go.AM.B1
open Go.AM Go.AM.So
def vK (ls:List (List (Int×Int))) (i:Nat):List PV:=(List.range 258).map fun k=>YI ls (i * 258+k)
theorem MK (H:List ba) (d o:Nat) (row:List PV):place H d (.pv (.rp row o))=some (.pv (.rp row (o+d))):=rfl
theorem CN {ls:List (List (Int×Int))} {i:Nat} (hi:i < ls.length) (H:List ba):wa H 258 (.pv (.lit 258 ((List.range ls.length).map (YN ls)))) (i:Int)=some (.pv (.rp (vK ls i) 0)):=by
 simp only[wa]
 rw[if_pos ⟨trivial,by unfold Ea;simp;omega⟩,Int.toNat_natCast,List.getElem?_map,List.getElem?_range hi];rfl
theorem SI {ls:List (List (Int×Int))} {i k:Nat} (hk:k < 258) (H:List ba):xa H false 1 (.pv (.rp (vK ls i) k))=some (.pv (YI ls (i * 258+k))):=by
 have:(vK ls i)[k]? =some (YI ls (i * 258+k)):=by rw[vK,List.getElem?_map,List.getElem?_range hk];rfl
 simp only[xa,gl,Bool.false_eq_true,if_false,this];rfl
theorem SV {ls:List (List (Int×Int))} {i:Nat} (H:List ba):xa H false 1 (.pv (.rp (vK ls i) 0))=some (.pv (Wn (ls.getD i []))):=by
 rw[SI (by omega),YI,if_pos (by omega),show (i * 258+0) / 258=i by omega]
theorem aW {ls:List (List (Int×Int))} {i:Nat} (H:List ba):xa H false 1 (.pv (.rp (vK ls i) 257))=some (.pv (i64 (Ya (ls.drop (i+1))))):=by
 rw[SI (by omega),YI,if_neg (by omega),if_pos (by omega),show (i * 258+257) / 258=i by omega]
theorem TS {ls:List (List (Int×Int))} {i:Nat} (hi:i < ls.length):ls.getD i []=ls[i]:=by rw[List.getD_eq_getElem?_getD,List.getElem?_eq_getElem hi];rfl
theorem WS {l:List (Int×Int)} (h:Pd l) {k x:Int} (h0:0≤k) (h1:k < Sc 0 l) (hx:IS k l=some x):(Sj l)[k.toNat]? =some x:=by
 obtain⟨y,q1,_,_,_,q5⟩:=ew h.2 h0 h1
 rw[hx] at q1;injection q1 with q1;subst q1
 have hr:=q5 0
 obtain⟨m,e1,e2⟩:=Kt (n:=0) h.2 (by rw[hr])
 rw[hr] at e2
 simp only at e2
 rw[show k.toNat=m by omega];exact e1
abbrev jM (C:PV) (n i k:Int) (es:List PV):Tr:=((((Tr.lf.set 19 (.pv (i64 i))).set 18 (.pv (i64 n))).set 5 (.uq 0 false 1 es)).set 1 (.pv (i64 k))).set 0 (.pv (.rp [C] 0))
theorem pD {s:ic} (Aa:Be s) {k:Int} (h0:0≤k) (h1:k < Ya s.parts):Mh [zj s.parts,i64 k]=some (.lit 1 ((Ug s.parts k).map (PV.int .u8))):=by
 have h8:=Aa.hi
 have hpr:=Aa.prod.2
 have hia:=fun {i:Nat} (hi:i < s.parts.length)=>CN (ls:=s.parts) hi
 have hcl:((List.range s.parts.length).map (YN s.parts)).length=s.parts.length:=by simp
 have hdg:zj s.parts= .rp [.lit 258 ((List.range s.parts.length).map (YN s.parts))] 0:=rfl
 rw[hdg]
 generalize (List.range s.parts.length).map (YN s.parts)=C at *
 have hloop:Sd (fun r=>∃ E H,r=(.exit 0,⟨E,H⟩)∧E.get 5= .uq 0 false 1 ((Ug s.parts k).map (PV.int .u8)))
  (mb (ga (pa (Ba (fun _=>none) 8) pf) (na 1 [0,1,5,18,19])) qa ⟨jM (.lit 258 C) s.parts.length 0 k [],[.tok 1 0 false]⟩):=by
  refine ya (Kb (fun i t=>∃ j es,t=⟨jM (.lit 258 C) s.parts.length i j (es.map (PV.int .u8)),[.tok 1 i false]⟩∧0≤j∧j < Ya (s.parts.drop i)∧es.length=i∧Ug s.parts k=es++Ug (s.parts.drop i) j)
   s.parts.length (by unfold qa;omega) _ ⟨k,[],rfl,h0,h1,rfl,rfl⟩ ?_ ?_) (fun r h=>h.2)
  ·rintro i t hi ⟨j,es,rfl,hj0,hj1,hel,hs⟩
   have hpo:=Aa.parts s.parts[i] (List.getElem_mem hi)
   have hd:s.parts.drop i=s.parts[i]::s.parts.drop (i+1):=List.drop_eq_getElem_cons hi
   rw[hd,Ya] at hj1
   rw[hd,Ug] at hs
   have hpos:=Rh (ls:=s.parts.drop (i+1)) fun x hx=>Aa.parts x (List.mem_of_mem_drop hx)
   have hle:=Np Aa.parts (i+1)
   have hdv:=JR hj0 hpos hj1
   obtain⟨x,q3,q4,q5,_⟩:=ew hpo.2 hdv.1 hdv.2.1
   rw[q3,Option.getD_some] at hs
   have hm:=WS hpo hdv.1 hdv.2.1 q3
   have hml:=getElem?_lt hm
   have hle2:=Np Aa.parts i
   rw[hd,Ya] at hle2
   have t3:IntKind.i64.wrap (j.tdiv (Ya (s.parts.drop (i+1))))=j.tdiv (Ya (s.parts.drop (i+1))):=Ca (by
    have:=hdv.2.2.2.2
    have h5:j.tdiv (Ya (s.parts.drop (i+1))) * 1≤j.tdiv (Ya (s.parts.drop (i+1))) * Ya (s.parts.drop (i+1)):=Int.mul_le_mul_of_nonneg_left hpos hdv.1
    omega)
   have a1:=hia hi
   have a4:=aW (ls:=s.parts) (i:=i)
   have a5:=SV (ls:=s.parts) (i:=i)
   rw[TS hi] at a5
   generalize vK s.parts i=R at *
   generalize s.parts[i]=l at *
   have a6:∀ H,wa H 1 (.pv (Wn l)) (j.tdiv (Ya (s.parts.drop (i+1))))=some (.pv (.rp [.int .u8 x] 0)):=fun H=>by
    simp only[wa,Wn]
    rw[if_pos ⟨trivial,by unfold Ea;rw[List.length_map];omega⟩,List.getElem?_map,hm];rfl
   have e1:decide ((i:Int) < (s.parts.length:Int))=true:=Fa (by omega)
   have t2:=Za hi (by unfold maxLen;omega)
   have z0:(Ya (s.parts.drop (i+1))=0)=False:=by simp;omega
   have hap:=fq (A:=[.tok 1 i false]) (id:=0) (n:=i) (h:= .uq) (nl:=false) (bytes:=1) (es:=es.map (PV.int .u8)) rfl (by simp[hel]) (by unfold qb;omega) (.int .u8 x)
   rw[List.set_cons_zero] at hap
   have hbm:(es++[x]).map (PV.int .u8)=es.map (PV.int .u8)++[.int .u8 x]:=by simp
   generalize hpq:Ya (s.parts.drop (i+1))=pr at *
   generalize hQ:LN _ _ i=QQ
   simp -implicitDefEqProofs only[SP,WP,fa,sevalprocAttr,pf,e1,t2,t3,z0,a1,a4,a5,a6,MK,Xa,hap,na,za,AV.cut,oa,ta,jM]
   subst hQ
   exact⟨_,es++[x],by rw[hbm],hdv.2.2.1,by rw[hpq];exact hdv.2.2.2.1,by simp[hel],by rw[hs];simp⟩
  ·rintro t ⟨j,es,rfl,hj0,hj1,hel,hs⟩
   rw[List.drop_length,Ug,List.append_nil] at hs
   have e1:decide ((s.parts.length:Int) < (s.parts.length:Int))=false:=Ja (by omega)
   generalize hQ:(fun r:Ex×St=>r.1.stop=true∧_)=Q
   simp -implicitDefEqProofs only[SX,sevalprocAttr,pf,e1,jM]
   subst hQ
   exact⟨rfl,_,_,rfl,by rw[hs];simp[Tr.aa]⟩
 obtain⟨r,g1,E,H,rfl,g6⟩:=uc hloop
 have g1':mb (ga (pa (Ba (fun _=>none) 8) pf) (na 1 [0,1,5,18,19])) qa ⟨((((Tr.lf.set 19 (.pv (.int .i64 0))).set 18 (.pv (i64 s.parts.length))).set 5 (.uq 0 false 1 [])).set 1 (.pv (i64 k))).set 0 (.pv (.rp [.lit 258 C] 0)),[.tok 1 0 false]⟩=some (.exit 0,⟨E,H⟩):=g1
 have e4:qb s.parts.length 1:=by unfold qb;omega
 have e2:(0≤(s.parts.length:Int))=True:=by simp
 have e5:((0:Int)≤0)=True:=by simp
 simp -implicitDefEqProofs only[Mh,SX,sevalprocAttr,Aj,MK,Xa,hcl,eq_true e4,e2,e5,Gb,na,za,AV.cut,oa,ta,g1',g6,Cj,fresh,Ad,chunk]
end Go.AM.B1
namespace Go.AM.B1
open Go.AM Go.AM.So
theorem PI (H:List ba) (a b c d e f:PV):xa H false 1 (.pv (.rp [a,b,c,d,e,f] 2))=some (.pv c)∧xa H false 1 (.pv (.rp [a,b,c,d,e,f] 3))=some (.pv d)∧xa H false 1 (.pv (.rp [a,b,c,d,e,f] 4))=some (.pv e)∧xa H false 1 (.pv (.rp [a,b,c,d,e,f] 5))=some (.pv f)∧xa H false 1 (.pv (.rp [a,b,c,d,e,f] 0))=some (.pv a)∧xa H false 1 (.pv (.rp [a,b,c,d,e,f] 1))=some (.pv b)∧xa H true 1 (.pv (.rp [a,b,c,d,e,f] 0))=some (.pv (.agg [a])):=⟨rfl,rfl,rfl,rfl,rfl,rfl,rfl⟩
section
variable {T:PV} {ss:List ic} {l:List (List Xe)} (hT:ru T ss l) (ho:∀ e∈l,Qm e)
include hT ho
end
end Go.AM.B1
namespace Go.AM.B1
open Go.AM Go.AM.So
def hG (a b:Int):Int:=if a < b then -1 else if a > b then 1 else 0
theorem lI (a b:Int):Jg [i64 a,i64 b]=some (i64 (hG a b)):=by
 have hn:∀ x:Int,oj [i64 x]=some (.bool false):=fun x=>by
  have z:(x != x)=false:=by simp
  simp -implicitDefEqProofs only[oj,SX,sevalprocAttr,Nn,z]
 unfold hG
 by_cases h1:a < b
 ·have d1:decide (a < b)=true:=Fa h1
  rw[if_pos h1]
  simp -implicitDefEqProofs only[Jg,SX,sevalprocAttr,ei,hn,d1]
 ·have d1:decide (a < b)=false:=Ja h1
  rw[if_neg h1]
  by_cases h2:a > b
  ·have d2:decide (a > b)=true:=Fa h2
   rw[if_pos h2]
   simp -implicitDefEqProofs only[Jg,SX,sevalprocAttr,ei,hn,d1,d2]
  ·have d2:decide (a > b)=false:=Ja h2
   rw[if_neg h2]
   simp -implicitDefEqProofs only[Jg,SX,sevalprocAttr,ei,hn,d1,d2]
theorem iJ (call:Wa) (a b c u:Int) (H:List ba):mg call Tg [.pv (.agg [i64 a,i64 b,i64 c]),.pv (i64 u)] H=some (.pv (i64 (hG a u)),H):=by
 have hc:=lI a u
 have l0:∀ H,xa H false 1 (.pv (.rp [i64 a,i64 b,i64 c] 0))=some (.pv (i64 a)):=fun H=>rfl
 have l1:∀ H,place H 0 (.pv (.rp [i64 a,i64 b,i64 c] 0))=some (.pv (.rp [i64 a,i64 b,i64 c] 0)):=fun H=>rfl
 simp -implicitDefEqProofs only[SX,sevalprocAttr,Tg,l0,l1,hc]
def r0 (r:List Int):Int:=r.getD 0 0
def r1 (r:List Int):Int:=r.getD 1 0
def r2 (r:List Int):Int:=r.getD 2 0
theorem aX {r:List Int} (h:r.length=3):r=[r0 r,r1 r,r2 r]:=by
 match r,h with
 | [a,b,c],_=>rfl
section
variable {RW:PV} {D:List (List Int)} (hR:Ai 3 RW (D.map dG)) (hD:∀ r∈D,r.length=3)
include hR hD
theorem ay {i:Nat} (hi:i < D.length) (H:List ba):wa H 3 (.pv RW) (i:Int)=some (.pv (.rp [i64 (r0 D[i]),i64 (r1 D[i]),i64 (r2 D[i])] 0)):=by
 rw[hR.lit (i:=i) (by simpa using hi)]
 simp only[wa]
 have h3:=aX (hD _ (List.getElem_mem hi))
 rw[if_pos ⟨trivial,by unfold Ea;rw[List.length_map];omega⟩,Int.toNat_natCast,List.getElem?_map,List.getElem?_eq_getElem hi,Option.map_some,Option.map_some]
 congr 4
 show (dG D[i]).cells=_
 unfold dG
 generalize D[i]=r at *
 match r,h3 with
 |r,h3=>rw[h3];rfl
variable (hs:∀ i j (h:i < j) (hj:j < D.length),r0 D[i]≤r0 D[j]) (hlen:D.length≤32)
include hs hlen
theorem MV {H:List ba} (hH:Fe H) (u:Int):∃ i:Nat,i≤D.length∧(∀ k (hk:k < D.length),k < i→r0 D[k] < u)∧(∀ k (hk:k < D.length),i≤k→u≤r0 D[k])∧
 mg (Ba bd 7) Ra [.pv RW,.pv (i64 u),.uk 41 []] H=some (.pv (.yc [i64 i,.bool (if h:i < D.length then decide (r0 D[i]=u) else false)]),H):=by
 have lR:=hR.len
 rw[List.length_map] at lR
 have c41:bd 41=some Tg:=rfl
 have r3:∀ H (x y z:PV),xa H true 3 (.pv (.rp [x,y,z] 0))=some (.pv (.agg [x,y,z])):=fun H x y z=>rfl
 have hcl:∀ n,AV.cut n deep (.uk 41 [])=some (.uk 41 []):=fun n=>rfl
 have hloop:=fun (E:Tr) (h0:E.get 0= .pv RW) (h1:E.get 1= .pv (i64 u)) (h2:E.get 2= .uk 41 []) (h8:E.get 8= .pv (i64 D.length)) (h9:E.get 9= .pv (i64 0)) (h10:E.get 10= .pv (i64 D.length))=>
  BP (call:=Ba bd 7) (b:=xb) (live:=[0,1,2,8,9,10]) (s:=⟨E,H⟩)
   (Q:=fun r=>∃ E' i,r=(.exit 0,⟨E',H⟩)∧Mc [0,1,2,8] E E'∧E'.get 9= .pv (i64 (i:Nat))∧i≤D.length∧(∀ k (hk:k < D.length),k < i→r0 D[k] < u)∧(∀ k (hk:k < D.length),i≤k→u≤r0 D[k]))
   (fun m t=>Mc [0,1,2,8] E t.env∧t.H=H∧∃ i j:Nat,t.env.get 9= .pv (i64 i)∧t.env.get 10= .pv (i64 j)∧i≤j∧j≤D.length∧m=j - i∧(∀ k (hk:k < D.length),k < i→r0 D[k] < u)∧(∀ k (hk:k < D.length),j≤k→u≤r0 D[k]))
   D.length (by unfold qa;omega)
   (cg.all rfl (hH _ (Nat.le_refl _)) (Fit.cons h0 Ga (.cons h1 Ga (.cons h2 (hcl _) (.cons h8 Ga (.cons h9 Ga (.cons h10 Ga (.nil _ _))))))) fun E' hE=>⟨Mc.sub hE rfl,rfl,0,D.length,by rw[hE 9 (by simp),h9];rfl,by rw[hE 10 (by simp),h10],by omega,by omega,by omega,fun k _ h=>by omega,fun k hk h=>by omega⟩)
   (by
    rintro m ⟨E1,H1⟩ ⟨k1,k2,i,j,k9,k10,hij,hj,hm,ha,hb⟩
    simp only at k1 k2 k9 k10
    replace k2:=k2.symm
    subst k2
    by_cases hlt:i < j
    ·have e1:decide ((i:Int) < (j:Int))=true:=Fa (by omega)
     have g0:=(k1 0 (by simp)).trans h0
     have g1:=(k1 1 (by simp)).trans h1
     have g2:=(k1 2 (by simp)).trans h2
     obtain⟨h,hh⟩:∃ h,h=(i+j) / 2:=⟨_,rfl⟩
     have hhD:h < D.length:=by omega
     have a1:=ay hR hD hhD
     have hc:=iJ (Ba bd 6) (r0 D[h]) (r1 D[h]) (r2 D[h]) u H
     have w1:IntKind.i64.wrap ((i:Int)+(j:Int))=(i:Int)+j:=Ca (by omega)
     have w2:IntKind.u64.wrap ((i:Int)+(j:Int))=(i:Int)+j:=by
      unfold IntKind.wrap;simp[IntKind.signed,IntKind.bits];omega
     have w3:((i:Int)+(j:Int)).fdiv (2 ^ min 1 IntKind.u64.bits)=(h:Int):=by
      show ((i:Int)+(j:Int)).fdiv 2=_
      rw[Int.fdiv_eq_ediv_of_nonneg _ (by omega)];omega
     have w4:IntKind.i64.wrap (h:Int)=(h:Int):=Ca (by omega)
     have w5:IntKind.i64.wrap ((h:Int)+1)=((h+1:Nat):Int):=xk (by omega)
     have z0:((1:Int) < 0)=False:=by simp
     generalize hQ:RQ _ _ _ _=Q
     by_cases hcu:r0 D[h] < u
     ·have hcm:hG (r0 D[h]) u= -1:=by unfold hG;rw[if_pos hcu]
      have z1:decide ((-1:Int) < 0)=true:=rfl
      rw[hcm] at hc
      simp -implicitDefEqProofs only[SX,sevalprocAttr,xb,k9,k10,e1,g0,g1,g2,a1,r3,w1,w2,w3,w4,w5,z0,c41,hc,z1]
      subst hQ
      rw[Di]
      generalize hEE:(Tr.set _ 9 _:Tr)=E2
      have kk:Mc [0,1,2,8] E E2:=by
       rw[← hEE]
       repeat refine Mc.set ?_ rfl
       exact k1
      have z9:E2.get 9= .pv (i64 (h+1:Nat)):=by rw[← hEE];simp[Tr.aa]
      have z10:E2.get 10= .pv (i64 j):=by rw[← hEE];simp[Tr.aa,k10]
      exact cg.all rfl (hH _ (Nat.le_refl _)) (Fit.sub (.cons z9 Ga (.cons z10 Ga (Fit.Qe (l:=[0,1,2,8]) (.cons h0 Ga (.cons h1 Ga (.cons h2 (hcl _) (.cons h8 Ga (.nil _ _))))) kk))) rfl) fun E' hE=>⟨j - (h+1),by omega,kk.trans (Mc.sub hE rfl),rfl,h+1,j,by rw[hE 9 (by simp),z9],by rw[hE 10 (by simp),z10],by omega,hj,rfl,fun k hk hkh=>by
       rcases Nat.lt_or_ge k h with h5 | h5
       ·exact Int.lt_of_le_of_lt (hs k h h5 hhD) hcu
       ·obtain rfl:k=h:=by omega
        exact hcu,hb⟩
     ·have z1:decide (hG (r0 D[h]) u < 0)=false:=Ja (by unfold hG;rw[if_neg hcu];split <;> omega)
      simp -implicitDefEqProofs only[SX,sevalprocAttr,xb,k9,k10,e1,g0,g1,g2,a1,r3,w1,w2,w3,w4,w5,z0,c41,hc,z1]
      subst hQ
      rw[Di]
      generalize hEE:(Tr.set _ 10 _:Tr)=E2
      have kk:Mc [0,1,2,8] E E2:=by
       rw[← hEE]
       repeat refine Mc.set ?_ rfl
       exact k1
      have z9:E2.get 9= .pv (i64 i):=by rw[← hEE];simp[Tr.aa,k9]
      have z10:E2.get 10= .pv (i64 h):=by rw[← hEE];simp[Tr.aa]
      exact cg.all rfl (hH _ (Nat.le_refl _)) (Fit.sub (.cons z9 Ga (.cons z10 Ga (Fit.Qe (l:=[0,1,2,8]) (.cons h0 Ga (.cons h1 Ga (.cons h2 (hcl _) (.cons h8 Ga (.nil _ _))))) kk))) rfl) fun E' hE=>⟨h - i,by omega,kk.trans (Mc.sub hE rfl),rfl,i,h,by rw[hE 9 (by simp),z9],by rw[hE 10 (by simp),z10],by omega,by omega,rfl,ha,fun k hk hkh=>by
       rcases Nat.lt_or_ge h k with h5 | h5
       ·exact Int.le_trans (Int.not_lt.1 hcu) (hs h k h5 hk)
       ·obtain rfl:k=h:=by omega
        omega⟩
    ·obtain rfl:i=j:=by omega
     have e1:decide ((i:Int) < (i:Int))=false:=Ja (by omega)
     generalize hQ:RQ _ _ _ _=Q
     simp -implicitDefEqProofs only[SX,sevalprocAttr,xb,k9,k10,e1]
     subst hQ
     exact⟨_,i,rfl,by repeat refine Mc.set ?_ rfl
                      exact k1,by simp[Tr.aa,k9],hj,ha,hb⟩)
 have key:Sd (fun r=>∃ i:Nat,i≤D.length∧(∀ k (hk:k < D.length),k < i→r0 D[k] < u)∧(∀ k (hk:k < D.length),i≤k→u≤r0 D[k])∧r=(.pv (.yc [i64 i,.bool (if h:i < D.length then decide (r0 D[i]=u) else false)]),H)) (mg (Ba bd 7) Ra [.pv RW,.pv (i64 u),.uk 41 []] H):=by
  generalize hQ:(fun r:AV×List ba=>∃ i:Nat,_)=Q
  simp -implicitDefEqProofs only[SX,sevalprocAttr,Ra,lR]
  generalize hEE:(Tr.set _ 10 _:Tr)=E
  refine ya (hloop E (by rw[← hEE];simp[Tr.aa]) (by rw[← hEE];simp[Tr.aa]) (by rw[← hEE];simp[Tr.aa]) (by rw[← hEE];simp[Tr.aa]) (by rw[← hEE];simp[Tr.aa]) (by rw[← hEE];simp[Tr.aa])) ?_
  have h0:E.get 0= .pv RW:=by rw[← hEE];simp[Tr.aa]
  have h1:E.get 1= .pv (i64 u):=by rw[← hEE];simp[Tr.aa]
  have h2:E.get 2= .uk 41 []:=by rw[← hEE];simp[Tr.aa]
  have h8:E.get 8= .pv (i64 D.length):=by rw[← hEE];simp[Tr.aa]
  rintro r ⟨_,E',i,rfl,k1,k9,hi,ha,hb⟩
  have g0:=(k1 0 (by simp)).trans h0
  have g1:=(k1 1 (by simp)).trans h1
  have g2:=(k1 2 (by simp)).trans h2
  have g8:=(k1 8 (by simp)).trans h8
  by_cases hlt:i < D.length
  ·have e1:decide ((i:Int) < (D.length:Int))=true:=Fa (by omega)
   have a1:=ay hR hD hlt
   have hc:=iJ (Ba bd 6) (r0 D[i]) (r1 D[i]) (r2 D[i]) u H
   have hge:=hb i hlt (Nat.le_refl _)
   have z:(hG (r0 D[i]) u==0)=decide (r0 D[i]=u):=by
    unfold hG
    rw[if_neg (by omega)]
    by_cases h5:r0 D[i] > u
    ·rw[if_pos h5,Ja (by omega)];rfl
    ·rw[if_neg h5,Fa (by omega)];rfl
   simp -implicitDefEqProofs only[SX,sevalprocAttr,k9,g0,g1,g2,g8,e1,a1,r3,c41,hc,z]
   subst hQ
   exact⟨i,hi,ha,hb,by rw[dif_pos hlt]⟩
  ·have e1:decide ((i:Int) < (D.length:Int))=false:=Ja (by omega)
   simp -implicitDefEqProofs only[SX,sevalprocAttr,k9,g0,g1,g2,g8,e1]
   subst hQ
   exact⟨i,hi,ha,hb,by rw[dif_neg hlt]⟩
 obtain⟨r,h1,i,h2,h3,h4,rfl⟩:=uc key
 exact⟨i,h2,h3,h4,h1⟩
end
theorem FN {ss:List ic} {r:List Int} (h:r∈Ii ss):∃ j,∃ hj:j < ss.length,r=uu ss[j] j:=by
 have:=(Wo ss).mem_iff.1 h
 unfold Xh at this
 obtain⟨j,hj,rfl⟩:=List.mem_map.1 this
 have hj:=List.mem_range.1 hj
 exact⟨j,hj,by rw[List.getD_eq_getElem?_getD,List.getElem?_eq_getElem hj];rfl⟩
theorem sN {ss:List ic} {j:Nat} (hj:j < ss.length):uu ss[j] j∈Ii ss:=by
 refine (Wo ss).mem_iff.2 ?_
 unfold Xh
 refine List.mem_map.2 ⟨j,List.mem_range.2 hj,?_⟩
 rw[List.getD_eq_getElem?_getD,List.getElem?_eq_getElem hj];rfl
theorem SG (ss:List ic) (i j:Nat) (h:i < j) (hj:j < (Ii ss).length):r0 (Ii ss)[i]≤r0 (Ii ss)[j]:=by
 obtain⟨h1,h2,h3⟩:=dy 3 0 (Xh ss ss.length).toArray
 have hj':j < (Xh ss ss.length).toArray.size:=by rw[← h1];simpa[Ii] using hj
 have h4:=h3 i j h hj'
 have key:∀ k (hk:k < (Ii ss).length),Jv 3 0 (dn 3 0 (Xh ss ss.length).toArray)[k]! =r0 (Ii ss)[k]:=by
  intro k hk
  have hk':k < (dn 3 0 (Xh ss ss.length).toArray).size:=by simpa[Ii] using hk
  rw[getElem!_pos _ k hk']
  have e:(dn 3 0 (Xh ss ss.length).toArray)[k]=(Ii ss)[k]:=by simp[Ii]
  have h3:=dA (List.getElem_mem hk)
  rw[e]
  generalize (Ii ss)[k]=r at *
  unfold Jv r0
  rw[if_pos h3]
 rw[key i (by omega),key j hj] at h4
 omega
theorem qI (ss:List ic):(Ii ss).Nodup:=by
 refine (Wo ss).nodup_iff.2 ?_
 unfold Xh List.Nodup
 rw[List.pairwise_map]
 refine List.Pairwise.imp ?_ (List.nodup_range (n:=ss.length))
 intro i j h e
 unfold uu at e
 injection e with _ e
 injection e with _ e
 injection e with e _
 omega
def has (s:ic) (u:Int):Prop:=s.first≤u∧u < s.first+Ya s.parts
theorem aH {ss:List ic} (Aa:Lc ss) {i j:Nat} (hi:i < ss.length) (hj:j < ss.length) {u:Int} (h1:has ss[i] u) (h2:has ss[j] u):i=j:=by
 have hap:=Aa.apart
 rw[List.pairwise_iff_getElem] at hap
 have e1:=(Aa.gw _ (List.getElem_mem hi)).Bh
 have e2:=(Aa.gw _ (List.getElem_mem hj)).Bh
 unfold has at h1 h2
 rcases Nat.lt_trichotomy i j with h | h | h
 ·exact absurd (hap i j hi hj h u) (fun hn=>hn ⟨by omega,by omega⟩)
 ·exact h
 ·exact absurd (hap j i hj hi h u) (fun hn=>hn ⟨by omega,by omega⟩)
section
variable {T:PV} {ss:List ic} {l:List (List Xe)} (hT:ru T ss l) (Aa:Lc ss)
include hT Aa
theorem HR (u:Int):(∃ j,∃ hj:j < ss.length,has ss[j] u∧Ed [T,i64 u]=some (.yc [.agg [i64 ss[j].first,i64 (ss[j].first+Ya ss[j].parts - 1),i64 j],.bool true]))∨
 ((∀ s∈ss,¬has s u)∧Ed [T,i64 u]=some (.yc [.agg [i64 0,i64 0,i64 0],.bool false])):=by
 obtain⟨S',NX,DG,RW,rfl,_,_,_,hRW⟩:=hT.ex
 have hrp:=PI (a:=S') (b:=Kk l) (c:=NX) (d:=DG) (e:=RW) (f:=i64 (mj ss))
 have l4:=fun H=>(hrp H).2.2.1
 generalize ([S',Kk l,NX,DG,RW,i64 (mj ss)]:List PV)=R at *
 obtain⟨D,hRW,hDr,hDm,hDh,hDl,hDs,hnd⟩:∃ D:List (List Int),Ai 3 RW (D.map dG)∧(∀ r∈D,r.length=3)∧(∀ r∈D,∃ j,∃ hj:j < ss.length,r=uu ss[j] j)∧(∀ j (hj:j < ss.length),uu ss[j] j∈D)∧D.length=ss.length∧(∀ i j (h:i < j) (hj:j < D.length),r0 D[i]≤r0 D[j])∧D.Nodup:=
  ⟨Ii ss,hRW,fun r hr=>dA hr,fun r hr=>FN hr,fun j hj=>sN hj,UE ss,SG ss,qI ss⟩
 have h32:=Aa.len
 have hg:Fe [ba.box [.pv (i64 0),.pv (i64 0),.pv (i64 0)]]:=fun n _ o ho=>by
  rw[List.mem_singleton] at ho;subst ho;exact sj n [i64 0,i64 0,i64 0]
 obtain⟨i,hi,ha,hb,hrun⟩:=MV hRW hDr hDs (by omega) hg u
 have c40:bd 40=some Ra:=rfl
 have b0:∀ a b c d e f,Ka [ba.box [.pv a,.pv b,.pv c]] 3 (.ptr 0 0) (.pv (.agg [.int .i64 d,.int .i64 e,.int .i64 f]))=some [.box [.pv (i64 d),.pv (i64 e),.pv (i64 f)]]:=fun a b c d e f=>rfl
 have ld:∀ a b c,xa [ba.box [.pv a,.pv b,.pv c]] true 3 (.ptr 0 0)=some (.pv (.agg [a,b,c])):=fun a b c=>rfl
 have r3:∀ H (x y z:PV),xa H true 3 (.pv (.rp [x,y,z] 0))=some (.pv (.agg [x,y,z])):=fun H x y z=>rfl
 have r31:∀ H (x y z:PV),xa H false 1 (.pv (.rp [x,y,z] 1))=some (.pv y):=fun H x y z=>rfl
 have fin:∀ k (hk:k < D.length),(∀ m (hm:m < D.length),k < m→u < r0 D[m])→r0 D[k]≤u→
  ((u≤r1 D[k]→∃ j,∃ hj:j < ss.length,has ss[j] u∧PV.agg [i64 (r0 D[k]),i64 (r1 D[k]),i64 (r2 D[k])]= .agg [i64 ss[j].first,i64 (ss[j].first+Ya ss[j].parts - 1),i64 j])∧(¬ u≤r1 D[k]→∀ s∈ss,¬has s u)):=by
  intro k hk hgt hle
  obtain⟨j',hj',hr'⟩:=hDm _ (List.getElem_mem hk)
  constructor
  ·intro h1
   rw[hr'] at h1 hle ⊢
   refine⟨j',hj',⟨hle,?_⟩,rfl⟩
   have:u≤ss[j'].first+Ya ss[j'].parts - 1:=h1
   omega
  ·intro h1 s hs hh
   obtain⟨j,hj,rfl⟩:=List.getElem_of_mem hs
   obtain⟨m,hm,hmr⟩:=List.getElem_of_mem (hDh j hj)
   have hh':=hh
   unfold has at hh'
   have hp:=Rh (Aa.gw _ (List.getElem_mem hj')).parts
   rcases Nat.lt_or_ge k m with h | h
   ·have:=hgt m hm h
    rw[hmr] at this
    have:u < ss[j].first:=this
    omega
   ·have h3:r0 D[m]≤r0 D[k]:=by
     rcases Nat.lt_or_ge m k with h5 | h5
     ·exact hDs m k h5 hk
     ·have:m=k:=by omega
      subst this;exact Int.le_refl _
    rw[hmr] at h3
    rw[hr'] at h3 hle h1
    have h3:ss[j].first≤ss[j'].first:=h3
    have hle:ss[j'].first≤u:=hle
    have e:j=j':=aH Aa hj hj' (u:=ss[j'].first) ⟨h3,by omega⟩ ⟨Int.le_refl _,by omega⟩
    subst e
    have:¬u≤ss[j].first+Ya ss[j].parts - 1:=h1
    omega
 have step:∀ (k:Nat) (hk:k < D.length),(∀ q (hq:q < D.length),k < q→u < r0 D[q])→r0 D[k]≤u→∀ R0:PV,
  (u≤r1 D[k]→R0= .yc [.agg [i64 (r0 D[k]),i64 (r1 D[k]),i64 (r2 D[k])],.bool true])→(¬ u≤r1 D[k]→R0= .yc [.agg [i64 0,i64 0,i64 0],.bool false])→
  (∃ j,∃ hj:j < ss.length,has ss[j] u∧R0= .yc [.agg [i64 ss[j].first,i64 (ss[j].first+Ya ss[j].parts - 1),i64 j],.bool true])∨((∀ s∈ss,¬has s u)∧R0= .yc [.agg [i64 0,i64 0,i64 0],.bool false]):=by
  intro k hk h1 h2 R0 h3 h4
  obtain⟨f1,f2⟩:=fin k hk h1 h2
  by_cases hc:u≤r1 D[k]
  ·obtain⟨j,hj,g1,g2⟩:=f1 hc
   exact .inl ⟨j,hj,g1,by rw[h3 hc,g2]⟩
  ·exact .inr ⟨f2 hc,h4 hc⟩
 suffices key:∃ R0,Ed [.rp R 0,i64 u]=some R0∧((∃ j,∃ hj:j < ss.length,has ss[j] u∧R0= .yc [.agg [i64 ss[j].first,i64 (ss[j].first+Ya ss[j].parts - 1),i64 j],.bool true])∨((∀ s∈ss,¬has s u)∧R0= .yc [.agg [i64 0,i64 0,i64 0],.bool false])) by
  obtain⟨R0,k1,⟨j,hj,k2,rfl⟩ | ⟨k2,rfl⟩⟩:=key
  ·exact .inl ⟨j,hj,k2,k1⟩
  ·exact .inr ⟨k2,k1⟩
 by_cases his:∃ h:i < D.length,r0 D[i]=u
 ·obtain⟨h,he⟩:=his
  rw[dif_pos h,Fa he] at hrun
  have hgt:∀ q (hq:q < D.length),i < q→u < r0 D[q]:=by
   intro q hq hiq
   have h3:=hDs i q hiq hq
   rcases Int.lt_or_le u (r0 D[q]) with h5 | h5
   ·exact h5
   ·exfalso
    obtain⟨j,hj,hr⟩:=hDm _ (List.getElem_mem h)
    obtain⟨j',hj',hr'⟩:=hDm _ (List.getElem_mem hq)
    have hp:=Rh (Aa.gw _ (List.getElem_mem hj)).parts
    have hp':=Rh (Aa.gw _ (List.getElem_mem hj')).parts
    have e1:ss[j].first=u:=by rw[hr] at he;exact he
    have e2:ss[j'].first≤u:=by rw[hr'] at h5;exact h5
    have e3:u≤ss[j'].first:=by rw[hr',he] at h3;exact h3
    have:j=j':=aH Aa hj hj' (u:=u) ⟨by omega,by omega⟩ ⟨by omega,by omega⟩
    subst this
    have:=(List.getElem_inj hnd).1 (hr.trans hr'.symm)
    omega
  have a1:=ay hRW hDr h
  have z1:decide ((i:Int) < 0)=false:=Ja (by omega)
  refine⟨_,?_,step i h hgt (by omega) (if u≤r1 D[i] then .yc [.agg [i64 (r0 D[i]),i64 (r1 D[i]),i64 (r2 D[i])],.bool true] else .yc [.agg [i64 0,i64 0,i64 0],.bool false]) (fun h=>by rw[if_pos h]) (fun h=>by rw[if_neg h])⟩
  by_cases hc:u≤r1 D[i]
  ·have z2:decide (u > r1 D[i])=false:=Ja (by omega)
   rw[if_pos hc]
   simp -implicitDefEqProofs only[Ed,SX,sevalprocAttr,Sf,Qt,MK,l4,c40,hrun,z1,a1,z2,r31,r3,b0,ld]
  ·have z2:decide (u > r1 D[i])=true:=Fa (by omega)
   rw[if_neg hc]
   simp -implicitDefEqProofs only[Ed,SX,sevalprocAttr,Sf,Qt,MK,l4,c40,hrun,z1,a1,z2,r31,r3,b0,ld]
 ·have hf:(if h:i < D.length then decide (r0 D[i]=u) else false)=false:=by
   by_cases h:i < D.length
   ·rw[dif_pos h];exact Ja fun e=>his ⟨h,e⟩
   ·rw[dif_neg h]
  rw[hf] at hrun
  have w1:IntKind.i64.wrap ((i:Int) - 1)=(i:Int) - 1:=Ca (by omega)
  cases i with
  |zero=>
   have z1:decide ((-1:Int) < 0)=true:=rfl
   have w1:IntKind.i64.wrap (-1)= -1:=Ca (by decide)
   have hrun:mg (Ba bd 7) Ra [.pv RW,.pv (i64 u),.uk 41 []] [.box [.pv (i64 0),.pv (i64 0),.pv (i64 0)]]=some (.pv (.yc [i64 0,.bool false]),[.box [.pv (i64 0),.pv (i64 0),.pv (i64 0)]]):=hrun
   refine⟨.yc [.agg [i64 0,i64 0,i64 0],.bool false],?_,.inr ⟨fun s hs hh=> ?_,rfl⟩⟩
   ·simp -implicitDefEqProofs only[Ed,SX,sevalprocAttr,Sf,Qt,MK,l4,c40,hrun,w1,z1,b0,ld]
   ·obtain⟨j,hj,rfl⟩:=List.getElem_of_mem hs
    obtain⟨m,hm,hmr⟩:=List.getElem_of_mem (hDh j hj)
    have h6:=hb m hm (Nat.zero_le _)
    have hne:r0 D[m]≠u:=by
     intro e
     have h7:=hb 0 (by omega) (Nat.le_refl _)
     have h8:r0 D[0]≤r0 D[m]:=by
      rcases Nat.eq_zero_or_pos m with h9 | h9
      ·subst h9;exact Int.le_refl _
      ·exact hDs 0 m h9 hm
     exact his ⟨by omega,by omega⟩
    rw[hmr] at h6 hne
    have h6:u≤ss[j].first:=h6
    have hne:ss[j].first≠u:=hne
    unfold has at hh;omega
  |succ i=>
   have h:i < D.length:=by omega
   have w2:((i+1:Nat):Int) - 1=(i:Int):=by omega
   rw[w2] at w1
   have z1:decide ((i:Int) < 0)=false:=Ja (by omega)
   have a1:=ay hRW hDr h
   have hlt:=ha i h (by omega)
   have hgt:∀ q (hq:q < D.length),i < q→u < r0 D[q]:=by
    intro q hq hiq
    have h6:=hb q hq (by omega)
    rcases Int.lt_or_le u (r0 D[q]) with h5 | h5
    ·exact h5
    ·exfalso
     have h7:=hb (i+1) (by omega) (Nat.le_refl _)
     have h8:r0 D[i+1]≤r0 D[q]:=by
      rcases Nat.lt_or_ge (i+1) q with h9 | h9
      ·exact hDs (i+1) q h9 hq
      ·have:i+1=q:=by omega
       subst this;exact Int.le_refl _
     exact his ⟨by omega,by omega⟩
   refine⟨_,?_,step i h hgt (by omega) (if u≤r1 D[i] then .yc [.agg [i64 (r0 D[i]),i64 (r1 D[i]),i64 (r2 D[i])],.bool true] else .yc [.agg [i64 0,i64 0,i64 0],.bool false]) (fun h=>by rw[if_pos h]) (fun h=>by rw[if_neg h])⟩
   by_cases hc:u≤r1 D[i]
   ·have z2:decide (u > r1 D[i])=false:=Ja (by omega)
    rw[if_pos hc]
    simp -implicitDefEqProofs only[Ed,SX,sevalprocAttr,Sf,Qt,MK,l4,c40,hrun,w1,w2,z1,a1,z2,r31,r3,b0,ld]
   ·have z2:decide (u > r1 D[i])=true:=Fa (by omega)
    rw[if_neg hc]
    simp -implicitDefEqProofs only[Ed,SX,sevalprocAttr,Sf,Qt,MK,l4,c40,hrun,w1,w2,z1,a1,z2,r31,r3,b0,ld]
end
end Go.AM.B1
namespace Go.AM.B1
open Go.AM Go.AM.So
def wE (u:Int):List ic→Option (List Int)
 | []=>none
 |s::r=>if s.first≤u∧u < s.first+Ya s.parts then some (Ug s.parts (u - s.first)) else wE u r
theorem WI {u:Int}:∀ {ss:List ic} {b:List Int},(∀ s∈ss,Be s)→wE u ss=some b→∃ s∈ss,s.first≤u∧u < s.first+Ya s.parts∧b=Ug s.parts (u - s.first)∧Sy s b=some (u - s.first)∧(∀ x∈b,0≤x∧x≤255)∧b≠[]
 |s::r,b,h,he=>by
  rw[wE] at he
  split at he
  ·next hc=>
   injection he with he;subst he
   have hs:=h s (by simp)
   obtain⟨h1,h2,h3⟩:=yv s.parts (u - s.first) 0 hs.parts (by omega) (by omega)
   refine⟨s,by simp,hc.1,hc.2,rfl,?_,h3,?_⟩
   ·unfold Sy;rw[if_pos h2,h1,Int.zero_add]
   ·intro h4;rw[h4] at h2;have:=hs.lo;simp at h2;omega
  ·obtain⟨s',h1,h2⟩:=WI (fun x hx=>h x (by simp[hx])) he
   exact⟨s',by simp[h1],h2⟩
end Go.AM.B1
namespace Go.AM.B1
open Go.AM Go.AM.So
theorem LM {u:Int}:∀ {ss:List ic},(∀ s∈ss,¬has s u)→wE u ss=none
 | [],_=>rfl
 |s::ss,h=>by
  have h1:=h s (by simp)
  unfold has at h1
  rw[wE,if_neg h1]
  exact LM fun x hx=>h x (by simp[hx])
theorem gW {u:Int} {ss:List ic} (Aa:Lc ss) {j:Nat} (hj:j < ss.length) (h:has ss[j] u):wE u ss=some (Ug ss[j].parts (u - ss[j].first)):=by
 have key:∀ (l:List ic) (j:Nat) (hj:j < l.length),(∀ i (hi:i < l.length),has l[i] u→i=j)→has l[j] u→wE u l=some (Ug l[j].parts (u - l[j].first)):=by
  intro l
  induction l with
  |nil=>intro j hj;simp at hj
  |cons s l ih=>
   intro j hj hone hh
   rw[wE]
   cases j with
   |zero=>rw[if_pos (show s.first≤u∧u < s.first+Ya s.parts from hh)];rfl
   |succ j=>
    rw[if_neg (fun hc:s.first≤u∧u < s.first+Ya s.parts=>by have:=hone 0 (by simp) hc;omega)]
    exact ih j (by simpa using hj) (fun i hi hx=>by have:=hone (i+1) (by simpa using hi) hx;omega) hh
 exact key ss j hj (fun i hi hx=>aH Aa hi hj hx h) h
section
variable {T:PV} {ss:List ic} {l:List (List Xe)} (hT:ru T ss l) (Aa:Lc ss)
include hT Aa
theorem QR (u:Int):Yc [T,i64 u]=some (match wE u ss with | some b=> .yc [.lit 1 (b.map u8),.bool true] | none=> .yc [.ma,.bool false]):=by
 have hrow:=HR hT Aa u
 obtain⟨S',NX,DG,RW,rfl,_,_,hDG,_⟩:=hT.ex
 have hrp:=PI (a:=S') (b:=Kk l) (c:=NX) (d:=DG) (e:=RW) (f:=i64 (mj ss))
 have l3:=fun H=>(hrp H).2.1
 generalize ([S',Kk l,NX,DG,RW,i64 (mj ss)]:List PV)=R at *
 have st:∀ a b c,Ka [ba.box [.pv (i64 0),.pv (i64 0),.pv (i64 0)]] 3 (.ptr 0 0) (.pv (.agg [i64 a,i64 b,i64 c]))=some [.box [.pv (i64 a),.pv (i64 b),.pv (i64 c)]]:=fun a b c=>rfl
 rcases hrow with⟨j,hj,hh,hr⟩ | ⟨hn,hr⟩
 ·rw[gW Aa hj hh]
  have hs:=Aa.gw _ (List.getElem_mem hj)
  have hh':=hh
  unfold has at hh'
  have hun:=pD hs (k:=u - ss[j].first) (by omega) (by omega)
  have hf0:=hs.f0
  have hl:=hs.Bh
  have hl2:=hs.last
  have a1:∀ H,wa H 1 (.pv DG) (j:Int)=some (.pv (.rp [zj ss[j].parts] 0)):=fun H=>by
   rw[hDG.lit (i:=j) (by simpa using hj)]
   simp only[wa]
   rw[if_pos ⟨trivial,by unfold Ea;rw[List.length_map];omega⟩,Int.toNat_natCast,List.getElem?_map,List.getElem?_eq_getElem hj];rfl
  generalize ss[j]=s at *
  have w1:IntKind.i64.wrap (u - s.first)=u - s.first:=Ca (by omega)
  have p0:∀ a b c d,place [ba.box [.pv a,.pv b,.pv c]] d (.ptr 0 0)=some (.ptr 0 (0+d)):=fun a b c d=>rfl
  have q2:∀ a b c,xa [ba.box [.pv a,.pv b,.pv c]] false 1 (.ptr 0 2)=some (.pv c):=fun a b c=>rfl
  have q0:∀ a b c,xa [ba.box [.pv a,.pv b,.pv c]] false 1 (.ptr 0 0)=some (.pv a):=fun a b c=>rfl
  simp -implicitDefEqProofs only[Yc,SX,sevalprocAttr,oi,hr,st,MK,l3,p0,q2,q0,a1,Xa,w1,hun]
 ·rw[LM hn]
  simp -implicitDefEqProofs only[Yc,SX,sevalprocAttr,oi,hr,st]
end
end Go.AM.B1
