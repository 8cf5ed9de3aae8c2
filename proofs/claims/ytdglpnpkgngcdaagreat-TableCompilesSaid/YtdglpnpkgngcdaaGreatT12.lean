/- What functions of the program compute. -/
import Derived.Test.YtdglpnpkgngcdaaGreatT11
import Derived.Test.YtdglpnpkgngcdaaGreatT6
import Derived.Test.YtdglpnpkgngcdaaGreatT7
import Derived.Test.YtdglpnpkgngcdaaGreatT10
set_option linter.unusedVariables false
set_option linter.unusedSimpArgs false
namespace Go.AM.B1
open Go.AM Go.AM.So
theorem KC (l:List Int) (n:Nat):(Ef l).all (AV.Ze n deep)=true:=by
 rw[List.all_eq_true];intro x hx
 obtain⟨y,_,rfl⟩:=List.mem_map.1 hx
 rfl
theorem US {V S':PV} {y:Bool} {a b:Int} (nl:Bool) (ds:List PV) (D:List (List Int)) (fl:Nat) (nr:Bool) (m:Int):
 Lg (Hx (.box [.pv V]) (.box [.pv (.bool y),.pv (i64 a),.pv (i64 b)]) (.tok 256 0 true) (.pv S') (.pv V) (.uq 3 true 256 []) nl ds D fl nr m):=by
 intro n hn o ho
 have hn:6≤n:=hn
 simp only[Hx,List.mem_cons,List.not_mem_nil,or_false] at ho
 rcases ho with rfl | rfl | rfl | rfl | rfl | rfl
 ·exact bo n [V]
 ·exact bo n [.bool y,i64 a,i64 b]
 ·simp only[pa,Ra,Ba,uw (show 3 < n by omega),uw (show 4 < n by omega),WN (show 5 < n by omega),Option.bind_some,Option.map_some]
 ·rfl
 ·rfl
 ·simp only[pa,KC,if_true]
theorem PR {V S':PV} {y:Bool} {a b m:Int} {nl:Bool} {ds:List PV} {D:List (List Int)} {fl k:Nat} {nr:Bool} (nx:Bool) (es:List PV):
 Lg (Kv (.box [.pv V]) (.box [.pv (.bool y),.pv (i64 a),.pv (i64 b)]) (.tok 1 k nl) (.seq 3 true (Ef D.flatten) fl nr) (.pv S') (.pv V) (.uq 4 nl 1 ds) (.own 5 k) (.pv (i64 m)) nx es):=by
 intro n hn o ho
 have hn:6≤n:=hn
 simp only[Kv,List.mem_cons,List.not_mem_nil,or_false] at ho
 rcases ho with rfl | rfl | rfl | rfl | rfl | rfl
 ·exact bo n [V]
 ·exact bo n [.bool y,i64 a,i64 b]
 ·simp only[pa,Ra,Ba,uw (show 3 < n by omega),uw (show 4 < n by omega),WN (show 5 < n by omega),Option.bind_some,Option.map_some]
 ·rfl
 ·rfl
 ·simp only[pa,KC,if_true]
theorem MS {V S':PV} {o0 o1:ba} {m:Int} {nl nr nx:Bool} {ds es:List PV} {D:List (List Int)} {fl k:Nat} (hk:D.length=k) (hD:∀ r∈D,r.length=3) (h1:nl=true→ds=[]) (h2:nr=true→D=[]) (h3:nx=true→es=[]):
 ∃ NX DG RW,ic (Kv o0 o1 (.tok 1 k nl) (.seq 3 true (Ef D.flatten) fl nr) (.pv S') (.pv V) (.uq 4 nl 1 ds) (.own 5 k) (.pv (i64 m)) nx es) 5 (.ptr 2 0)=some (.rp [S',V,NX,DG,RW,i64 m] 0)∧
  Th 256 NX es∧Th 1 DG ds∧Th 3 RW (D.map Dn):=by
 refine⟨if nx then .ma else .lit 256 es,if nl then .ma else .lit 1 ds,if nr then .ma else .lit 3 (D.map Dn),?_,?_,?_,?_⟩
 ·have hc:k * 3=(Ef D.flatten).length∧(true||(3:Nat)==1)=true:=⟨by rw[List.length_map,Uw hD,hk],rfl⟩
  have hm:Ra (ic (Kv o0 o1 (.tok 1 k nl) (.seq 3 true (Ef D.flatten) fl nr) (.pv S') (.pv V) (.uq 4 nl 1 ds) (.own 5 k) (.pv (i64 m)) nx es) 3) (Ef D.flatten)=some (D.flatten.map i64):=by
   generalize Kv o0 o1 (.tok 1 k nl) (.seq 3 true (Ef D.flatten) fl nr) (.pv S') (.pv V) (.uq 4 nl 1 ds) (.own 5 k) (.pv (i64 m)) nx es=H
   generalize D.flatten=F
   induction F with
   |nil=>rfl
   |cons x F ih=>
    show Ra (ic H 3) (.pv (i64 x)::Ef F)=_
    rw[Ra,ih];rfl
  have hch:chunk 3 true k (D.flatten.map i64)=D.map Dn:=by
   have:=yD (sz:=3) (D:=D.map fun r=>r.map i64) (by
    intro r hr
    obtain⟨q,hq,rfl⟩:=List.mem_map.1 hr
    rw[List.length_map,hD q hq])
   rw[List.length_map,List.map_map,←List.map_flatten,hk] at this
   exact this
  have h5:(Kv o0 o1 (.tok 1 k nl) (.seq 3 true (Ef D.flatten) fl nr) (.pv S') (.pv V) (.uq 4 nl 1 ds) (.own 5 k) (.pv (i64 m)) nx es)[5]? =some (.seq 3 true (Ef D.flatten) fl nr):=rfl
  have hb:(Kv o0 o1 (.tok 1 k nl) (.seq 3 true (Ef D.flatten) fl nr) (.pv S') (.pv V) (.uq 4 nl 1 ds) (.own 5 k) (.pv (i64 m)) nx es)[2]? =some (.box [.pv S',.pv V,.uq 3 nx 256 es,.uq 4 nl 1 ds,.own 5 k,.pv (i64 m)]):=rfl
  have ho:ic (Kv o0 o1 (.tok 1 k nl) (.seq 3 true (Ef D.flatten) fl nr) (.pv S') (.pv V) (.uq 4 nl 1 ds) (.own 5 k) (.pv (i64 m)) nx es) 4 (.own 5 k)=some (if nr then .ma else .lit 3 (D.map Dn)):=by
   simp only[ic,h5,if_pos hc,hm,Option.map_some,hch]
   cases nr <;> rfl
  generalize Kv o0 o1 (.tok 1 k nl) (.seq 3 true (Ef D.flatten) fl nr) (.pv S') (.pv V) (.uq 4 nl 1 ds) (.own 5 k) (.pv (i64 m)) nx es=H at *
  show (match H[2]? with | some (.box cells)=>(Ra (ic H 4) cells).map fun ps=>PV.rp ps 0 | _=>none)=_
  rw[hb]
  have hv:∀ p:PV,ic H 4 (.pv p)=some p:=fun p=>rfl
  have hu:∀ id nl sz es,ic H 4 (.uq id nl sz es)=some (if nl then .ma else .lit sz es):=fun _ _ _ _=>rfl
  simp only[Ra,hv,hu,ho,Option.bind_some,Option.map_some]
 ·cases nx with
  |false=>exact .inr rfl
  |true=>exact .inl ⟨rfl,h3 rfl⟩
 ·cases nl with
  |false=>exact .inr rfl
  |true=>exact .inl ⟨rfl,h1 rfl⟩
 ·cases nr with
  |false=>exact .inr rfl
  |true=>exact .inl ⟨rfl,by rw[h2 rfl];rfl⟩
theorem qT {ss:List Yb} (h32:ss.length≤32) {H:List ba} {fl:Nat} {nr:Bool} (hH:H[5]? =some (.seq 3 true (Ef (Mi ss ss.length).flatten) fl nr)):
 zh Uq (fun _=>none) 8 34 [.own 5 ss.length,.Wk 36 []] H=some (.pv (.Jc []),H.set 5 (.seq 3 true (Ef (Od ss).flatten) (ss.length * 3) nr)):=by
 have e34:∀ (d:Nat) args H,zh Uq (fun _=>none) (d+1) 34 args H=mz 3 0 36 args H:=fun d args H=>rfl
 rw[e34 7]
 have hl:(Ef (Mi ss ss.length).flatten).length=ss.length * 3:=by rw[List.length_map,Uw fun r hr=>ux hr,Rp]
 simp only[mz,hH]
 rw[if_pos ⟨trivial,trivial,hl.symm,by omega⟩,Wt,Option.map_some,hl]
 have:=cz (D:=Mi ss ss.length) fun r hr=>ux hr
 rw[Rp] at this
 rw[this];rfl
theorem eE {S:PV} {ss:List Yb} {es:List PV} (hS:Xa S ss es) (Aa:wc ss) (hpre:ch ss) {l:List (List ve)} (ha:eh ss=some l) {a b:Int} (hi:Vg [.agg [S]]=some (.Jc [.agg [.bool true,i64 a,i64 b],i64 0])):
 ∃ T,Gb [.agg [S]]=some (.Jc [T,i64 0])∧Lt T ss l:=by
 have hS1:(AV.pv S).one=true:=by rcases hS.is with⟨h,_⟩ | h <;> rw[h] <;> rfl
 have hb:=(Di hS).2.2.2 Aa hpre l ha
 obtain⟨S',hcp,hS'⟩:=Lz hS Aa
 have hS'1:(AV.pv S').one=true:=by rcases hS' with⟨h,_⟩ | h <;> rw[h] <;> rfl
 have lS:=hS.Sb
 obtain⟨k64,k256⟩:=Zw ha
 have hst:=Mu k64 k256
 have hV1:(AV.pv (pf l)).one=true:=rfl
 have hVl:Th 1 (pf l) (l.map Vb):= .inr rfl
 have lV:=hVl.len
 rw[List.length_map] at lV
 have heo:=tE Aa hpre ha
 obtain⟨V,hVe⟩:∃ V,V=pf l:=⟨_,rfl⟩
 rw[← hVe] at hb hst hV1 hVl lV
 have st:Ma [.box [.pv .ma]] 1 (.ptr 0 0) (.pv (.agg [V]))=some [.box [.pv V]]:=by simp[Ma,AV.cells,PV.cells,hV1,na]
 have st2:Ma [.box [.pv V],.box [.pv (.bool false),.pv (i64 0),.pv (i64 0)]] 3 (.ptr 1 0) (.pv (.agg [.bool true,i64 a,i64 b]))=some [.box [.pv V],.box [.pv (.bool true),.pv (i64 a),.pv (i64 b)]]:=rfl
 have p2:∀ a b c d,place [a,.box [b,c,d]] 0 (.ptr 1 0)=some (.ptr 1 0):=fun a b c d=>rfl
 have l2:∀ a b c d,ya [a,.box [b,c,d]] false 1 (.ptr 1 0)=some b:=fun a b c d=>rfl
 have l3:ya [.box [.pv V],.box [.pv (.bool true),.pv (i64 a),.pv (i64 b)]] true 1 (.ptr 0 0)=some (.pv (.agg [V])):=rfl
 have z0:((0:Int)==0)=true:=rfl
 have z1:((0:Int) != 0)=false:=rfl
 have m1:na [AV.pv PV.ma,.pv .ma,.pv .ma,.pv .ma,.pv .ma,.pv (.int .i64 0)] 0 [AV.pv S']=[.pv S',.pv .ma,.pv .ma,.pv .ma,.pv .ma,.pv (.int .i64 0)]:=rfl
 have m2:na [AV.pv S',.pv .ma,.pv .ma,.pv .ma,.pv .ma,.pv (.int .i64 0)] 1 [AV.pv V]=[.pv S',.pv V,.pv .ma,.pv .ma,.pv .ma,.pv (.int .i64 0)]:=rfl
 have m3:He [AV.pv S',.pv V,.pv .ma,.pv .ma,.pv .ma,.pv (.int .i64 0)]=some [S',V,.ma,.ma,.ma,.int .i64 0]:=rfl
 have hz1:(0 < 256)=True:=by simp
 have hz2:(0 < 3)=True:=by simp
 have hz3:(0 < 1)=True:=by simp
 suffices key:Md (fun r=>∃ T,r= .Jc [T,i64 0]∧Lt T ss l) (Gb [.agg [S]]) by
  obtain⟨r,h1,T,rfl,h2⟩:=Fc key
  exact⟨T,h1,h2⟩
 generalize hQ:(fun r=>∃ T,r=PV.Jc [T,i64 0]∧_)=Q
 simp -implicitDefEqProofs only[Gb,gB.eq_1,SX,sevalprocAttr,Ei,hS1,hV1,hS'1,Mf,Na,Tb,hb,hi,st,st2,p2,l2,l3,z0,z1,hcp,m1,m2,m3,vC,Ke,hz1,hz2,hz3,lS]
 generalize hEE:(Tr.set _ 48 _:Tr)=E
 have q4:E.get 4= .ptr 0 0:=by rw[← hEE];simp[Tr.aa]
 have q8:E.get 8= .ptr 2 0:=by rw[← hEE];simp[Tr.aa]
 have q46:E.get 46= .pv S:=by rw[← hEE];simp[Tr.aa]
 have q47:E.get 47= .pv (i64 ss.length):=by rw[← hEE];simp[Tr.aa]
 have q48:E.get 48= .pv (i64 0):=by rw[← hEE];simp[Tr.aa]
 refine wa (wV (call:=zh Uq (fun _=>none) 8) (US (V:=V) (S':=S') (y:=true) (a:=a) (b:=b)) hS Aa q4 q8 q46 q47 q48) ?_
 rintro r ⟨_,E2,nl,nr,rfl,g4,g8,hnl,hnr⟩
 have hdl:(ss.map fun s=>Yi s.parts).length=ss.length:=by rw[List.length_map]
 have hrl:=Rp ss ss.length
 have hDl:=ql ss
 have p5:∀ d,place (Hx (.box [.pv V]) (.box [.pv (.bool true),.pv (i64 a),.pv (i64 b)]) (.tok 256 0 true) (.pv S') (.pv V) (.uq 3 true 256 []) nl (ss.map fun s=>Yi s.parts) (Mi ss ss.length) 0 nr (Ae ss)) d (.ptr 2 0)=some (.ptr 2 (0+d)):=fun d=>Gg rfl d 0
 have l5:ya (Hx (.box [.pv V]) (.box [.pv (.bool true),.pv (i64 a),.pv (i64 b)]) (.tok 256 0 true) (.pv S') (.pv V) (.uq 3 true 256 []) nl (ss.map fun s=>Yi s.parts) (Mi ss ss.length) 0 nr (Ae ss)) false 1 (.ptr 2 4)=some (.own 5 ss.length):=by
  rw[← hrl,Rp]
  show some (AV.own 5 (Mi ss ss.length).length)=_
  rw[hrl]
 have hsort:=qT Aa.len (H:=Hx (.box [.pv V]) (.box [.pv (.bool true),.pv (i64 a),.pv (i64 b)]) (.tok 256 0 true) (.pv S') (.pv V) (.uq 3 true 256 []) nl (ss.map fun s=>Yi s.parts) (Mi ss ss.length) 0 nr (Ae ss)) rfl
 have hHT:(Hx (.box [.pv V]) (.box [.pv (.bool true),.pv (i64 a),.pv (i64 b)]) (.tok 256 0 true) (.pv S') (.pv V) (.uq 3 true 256 []) nl (ss.map fun s=>Yi s.parts) (Mi ss ss.length) 0 nr (Ae ss)).set 5 (.seq 3 true (Ef (Od ss).flatten) (ss.length * 3) nr)=Kv (.box [.pv V]) (.box [.pv (.bool true),.pv (i64 a),.pv (i64 b)]) (.tok 1 ss.length nl) (.seq 3 true (Ef (Od ss).flatten) (ss.length * 3) nr) (.pv S') (.pv V) (.uq 4 nl 1 (ss.map fun s=>Yi s.parts)) (.own 5 ss.length) (.pv (i64 (Ae ss))) true []:=by
  unfold Hx Kv
  rw[hdl,hrl];rfl
 rw[hHT] at hsort
 have p6:∀ d,place (Kv (.box [.pv V]) (.box [.pv (.bool true),.pv (i64 a),.pv (i64 b)]) (.tok 1 ss.length nl) (.seq 3 true (Ef (Od ss).flatten) (ss.length * 3) nr) (.pv S') (.pv V) (.uq 4 nl 1 (ss.map fun s=>Yi s.parts)) (.own 5 ss.length) (.pv (i64 (Ae ss))) true []) d (.ptr 0 0)=some (.ptr 0 (0+d)):=fun d=>Gg rfl d 0
 have l6:ya (Kv (.box [.pv V]) (.box [.pv (.bool true),.pv (i64 a),.pv (i64 b)]) (.tok 1 ss.length nl) (.seq 3 true (Ef (Od ss).flatten) (ss.length * 3) nr) (.pv S') (.pv V) (.uq 4 nl 1 (ss.map fun s=>Yi s.parts)) (.own 5 ss.length) (.pv (i64 (Ae ss))) true []) false 1 (.ptr 0 0)=some (.pv V):=rfl
 have hnx:=fun (E3:Tr) (r8:E3.get 8= .ptr 2 0) (r101:E3.get 101= .pv V) (r102:E3.get 102= .pv (i64 l.length)) (r103:E3.get 103= .pv (i64 0))=>
  oV (call:=zh Uq (fun _=>none) 8) (PR (V:=V) (S':=S') (y:=true) (a:=a) (b:=b) (m:=Ae ss) (nl:=nl) (ds:=ss.map fun s=>Yi s.parts) (D:=Od ss) (fl:=ss.length * 3) (k:=ss.length) (nr:=nr)) hVl k64 k256 heo r8 r101 r102 r103
 obtain⟨NX,hNX⟩:∃ x,x=fun nx=>Kv (.box [.pv V]) (.box [.pv (.bool true),.pv (i64 a),.pv (i64 b)]) (.tok 1 ss.length nl) (.seq 3 true (Ef (Od ss).flatten) (ss.length * 3) nr) (.pv S') (.pv V) (.uq 4 nl 1 (ss.map fun s=>Yi s.parts)) (.own 5 ss.length) (.pv (i64 (Ae ss))) nx (l.map wo):=⟨_,rfl⟩
 have hnx':=hnx
 generalize Hx (.box [.pv V]) (.box [.pv (.bool true),.pv (i64 a),.pv (i64 b)]) (.tok 256 0 true) (.pv S') (.pv V) (.uq 3 true 256 []) nl (ss.map fun s=>Yi s.parts) (Mi ss ss.length) 0 nr (Ae ss)=HS at *
 simp -implicitDefEqProofs only[SX,sevalprocAttr,g4,g8,p5,l5,hsort,p6,l6,lV]
 generalize hEE3:(Tr.set _ 103 _:Tr)=E3
 refine wa (hnx E3 (by rw[← hEE3];simp[Tr.aa,g8]) (by rw[← hEE3];simp[Tr.aa]) (by rw[← hEE3];simp[Tr.aa]) (by rw[← hEE3];simp[Tr.aa])) ?_
 rintro r ⟨_,E4,nx,rfl,r8,hx⟩
 obtain⟨NX,DG,RW,t1,t2,t3,t4⟩:=MS (V:=V) (S':=S') (o0:= .box [.pv V]) (o1:= .box [.pv (.bool true),.pv (i64 a),.pv (i64 b)]) (m:=Ae ss) (nl:=nl) (nr:=nr) (nx:=nx) (ds:=ss.map fun s=>Yi s.parts) (es:=l.map wo) (D:=Od ss) (fl:=ss.length * 3) (k:=ss.length) hDl (fun r hr=>Kw hr) (fun h=>by rw[hnl h];rfl) (fun h=>by have:=hDl;rw[hnr h] at this ⊢;exact List.eq_nil_of_length_eq_zero this) (fun h=>by rw[hx h];rfl)
 generalize Kv (.box [.pv V]) (.box [.pv (.bool true),.pv (i64 a),.pv (i64 b)]) (.tok 1 ss.length nl) (.seq 3 true (Ef (Od ss).flatten) (ss.length * 3) nr) (.pv S') (.pv V) (.uq 4 nl 1 (ss.map fun s=>Yi s.parts)) (.own 5 ss.length) (.pv (i64 (Ae ss))) nx (l.map wo)=HT at *
 have hm1:gG [AV.ptr 2 0,.pv (.int .i64 0)]= .Jc [.ptr 2 0,.pv (.int .i64 0)]:=rfl
 have htp:ic HT 6 (.Jc [.ptr 2 0,.pv (.int .i64 0)])=some (.Jc [.rp [S',V,NX,DG,RW,i64 (Ae ss)] 0,i64 0]):=by
  show (Ra (ic HT 5) [AV.ptr 2 0,.pv (.int .i64 0)]).map PV.Jc=_
  have hv:ic HT 5 (.pv (.int .i64 0))=some (.int .i64 0):=rfl
  simp only[Ra,t1,hv,Option.bind_some,Option.map_some]
 simp -implicitDefEqProofs only[SX,sevalprocAttr,r8,kD,hm1,htp]
 subst hQ
 exact⟨_,rfl,⟨S',NX,DG,RW,by rw[hVe],hS',t2,t3,t4⟩⟩
theorem Pp {S:PV} {ss:List Yb} {es:List PV} (hS:Xa S ss es):∃ T n,Gb [.agg [S]]=some (.Jc [T,i64 n])∧(n≠0→T= .Bi)∧
 (¬ wc ss→n=84)∧(wc ss→¬ch ss→n=110)∧(wc ss→ch ss→¬pn ss→n=111)∧(wc ss→ch ss→pn ss→eh ss=none→n=130)∧
 (∀ l,wc ss→ch ss→pn ss→eh ss=some l→n=0∧Lt T ss l):=by
 have hb:=Di hS
 by_cases h1:wc ss
 ·by_cases h2:ch ss
  ·obtain⟨y,a,b,hi,hy⟩:=IL hS h1
   by_cases h3:pn ss
   ·have:=hy.2 h3
    subst this
    cases h4:eh ss with
    |none=>
     have:=KB hS (n:=130) (V:= .ma) rfl (.inr rfl) (.inl rfl) (hb.2.2.1 h1 h2 h4) hi
     exact⟨.Bi,130,this,fun _=>rfl,fun h=>absurd h1 h,fun _ h=>absurd h2 h,fun _ _ h=>absurd h3 h,fun _ _ _ _=>rfl,fun l _ _ _ h=>(by cases h)⟩
    |some l=>
     obtain⟨T,t1,t2⟩:=eE hS h1 h2 h4 hi
     refine⟨T,0,t1,fun h=>absurd rfl h,fun h=>absurd h1 h,fun _ h=>absurd h2 h,fun _ _ h=>absurd h3 h,fun _ _ _ h=>(by cases h),fun l' _ _ _ h=> ?_⟩
     injection h with h
     exact⟨rfl,h ▸ t2⟩
   ·have hyf:y=false:=by cases y with | false=>rfl | true=>exact absurd (hy.1 rfl) h3
    subst hyf
    have key:∃ n V,(AV.pv V).one=true∧(n=0∨n=130)∧Cc [.agg [S]]=some (.Jc [.agg [V],i64 n]):=by
     cases h4:eh ss with
     |none=>exact⟨130,.ma,rfl,.inr rfl,hb.2.2.1 h1 h2 h4⟩
     |some l=>exact⟨0,pf l,rfl,.inl rfl,hb.2.2.2 h1 h2 l h4⟩
    obtain⟨n,V,k1,k2,k3⟩:=key
    have:=KB hS k1 k2 (.inr rfl) k3 hi
    exact⟨.Bi,111,this,fun _=>rfl,fun h=>absurd h1 h,fun _ h=>absurd h2 h,fun _ _ _=>rfl,fun _ _ h=>absurd h h3,fun l _ _ h=>absurd h h3⟩
  ·have:=rB hS (n:=110) (V:= .ma) rfl (by decide) (by decide) (hb.2.1 h1 h2)
   exact⟨.Bi,110,this,fun _=>rfl,fun h=>absurd h1 h,fun _ _=>rfl,fun _ h=>absurd h h2,fun _ h=>absurd h h2,fun l _ h=>absurd h h2⟩
 ·have:=rB hS (n:=84) (V:= .ma) rfl (by decide) (by decide) (hb.1 h1)
  exact⟨.Bi,84,this,fun _=>rfl,fun _=>rfl,fun h=>absurd h h1,fun h=>absurd h h1,fun h=>absurd h h1,fun l h=>absurd h h1⟩
theorem YO {S:PV} {ss:List Yb} {es:List PV} (hS:Xa S ss es):∃ T n,Gb [.agg [S]]=some (.Jc [T,i64 n])∧
 ((n≠0∧T= .Bi)∨(n=0∧wc ss∧ch ss∧pn ss∧∃ l,eh ss=some l∧Lt T ss l∧∀ e∈l,qp e)):=by
 obtain⟨T,n,hc,hn,h1,h2,h3,h4,h5⟩:=Pp hS
 refine⟨T,n,hc,?_⟩
 by_cases h0:n=0
 ·refine .inr ⟨h0,?_⟩
  by_cases k1:wc ss
  ·by_cases k2:ch ss
   ·by_cases k3:pn ss
    ·cases k4:eh ss with
     |none=>have:=h4 k1 k2 k3 k4;omega
     |some l=>exact⟨k1,k2,k3,l,rfl,(h5 l k1 k2 k3 k4).2,tE k1 k2 k4⟩
    ·have:=h3 k1 k2 k3;omega
   ·have:=h2 k1 k2;omega
  ·have:=h1 k1;omega
 ·exact .inl ⟨h0,hn h0⟩
end Go.AM.B1
namespace Go.AM.B1
open Go.AM Go.AM.So
def aI (ls:List (List (Int×Int))) (i:Nat):List PV:=(List.range 258).map fun k=>jI ls (i * 258+k)
theorem sB (H:List ba) (d o:Nat) (row:List PV):place H d (.pv (.rp row o))=some (.pv (.rp row (o+d))):=rfl
theorem MX (H:List ba) (o n:Nat) (row:List PV):place H (n * 1) (.pv (.rp row o))=some (.pv (.rp row (o+n))):=by rw[Nat.mul_one];rfl
theorem IG {ls:List (List (Int×Int))} {i:Nat} (hi:i < ls.length) (H:List ba):ua H 258 (.pv (.lit 258 ((List.range ls.length).map (dH ls)))) (i:Int)=some (.pv (.rp (aI ls i) 0)):=by
 simp only[ua]
 rw[if_pos ⟨trivial,by unfold Fa;simp;omega⟩,Int.toNat_natCast,List.getElem?_map,List.getElem?_range hi];rfl
theorem OC {ls:List (List (Int×Int))} {i k:Nat} (hk:k < 258) (H:List ba):ya H false 1 (.pv (.rp (aI ls i) k))=some (.pv (jI ls (i * 258+k))):=by
 have:(aI ls i)[k]? =some (jI ls (i * 258+k)):=by rw[aI,List.getElem?_map,List.getElem?_range hk];rfl
 simp only[ya,jm,Bool.false_eq_true,if_false,this];rfl
theorem aW {ls:List (List (Int×Int))} {i:Nat} (H:List ba):ya H false 1 (.pv (.rp (aI ls i) 0))=some (.pv (Uo (ls.getD i []))):=by
 rw[OC (by omega),jI,if_pos (by omega),show (i * 258+0) / 258=i by omega]
theorem dR {ls:List (List (Int×Int))} {i:Nat} (H:List ba):ya H false 1 (.pv (.rp (aI ls i) 257))=some (.pv (i64 (Qa (ls.drop (i+1))))):=by
 rw[OC (by omega),jI,if_neg (by omega),if_pos (by omega),show (i * 258+257) / 258=i by omega]
theorem jW {ls:List (List (Int×Int))} {i y:Nat} (hy:y < 256) (H:List ba):ya H false 1 (.pv (.rp (aI ls i) (1+y)))=some (.pv (Qu (ls.getD i []) y)):=by
 rw[OC (by omega),jI,if_neg (by omega),if_neg (by omega),show (i * 258+(1+y)) / 258=i by omega,show (i * 258+(1+y)) % 258 - 1=y by omega]
theorem yN {ls:List (List (Int×Int))} {i:Nat} (hi:i < ls.length):ls.getD i []=ls[i]:=by rw[List.getD_eq_getElem?_getD,List.getElem?_eq_getElem hi];rfl
abbrev zJ (C B:PV) (n i k:Int):Tr:=((((Tr.lf.set 22 (.pv (i64 i))).set 21 (.pv (i64 n))).set 6 (.pv (i64 k))).set 1 (.pv B)).set 0 (.pv (.rp [C] 0))
theorem sH {s:Yb} {B:PV} {bs:List Int} (hB:uo B bs) (Aa:xe s):
 (∀ k,qn s bs=some k→Ye [Yi s.parts,B]=some (.Jc [i64 k,.bool true]))∧(qn s bs=none→Ye [Yi s.parts,B]=some (.Jc [i64 0,.bool false])):=by
 have lB:=hB.Sb
 have h8:=Aa.hi
 have hpr:=Aa.prod.2
 have hia:=fun {i:Nat} (hi:i < s.parts.length)=>IG (ls:=s.parts) hi
 have hcl:((List.range s.parts.length).map (dH s.parts)).length=s.parts.length:=by simp
 have hdg:Yi s.parts= .rp [.lit 258 ((List.range s.parts.length).map (dH s.parts))] 0:=rfl
 rw[hdg]
 generalize (List.range s.parts.length).map (dH s.parts)=C at *
 by_cases hlen:bs.length=s.parts.length
 ·have hrk:qn s bs=sk s.parts bs 0:=by unfold qn;rw[if_pos hlen]
  have hloop:Md (fun r=>∃ E,(r=(.ret,⟨E,[]⟩)∧E.get 4= .pv (i64 0)∧E.get 5= .pv (.bool false)∧sk s.parts bs 0=none)∨(∃ k,r=(.exit 0,⟨E,[]⟩)∧E.get 6= .pv (i64 k)∧sk s.parts bs 0=some k))
   (gb (fa (ta (Ca (fun _=>none) 8) Vd) (ga 0 [0,1,6,21,22])) oa ⟨zJ (.lit 258 C) B s.parts.length 0 0,[]⟩):=by
   refine wa (yb (g:=fa (ta (Ca (fun _=>none) 8) Vd) (ga 0 [0,1,6,21,22]))
    (fun i t=>∃ k,t=⟨zJ (.lit 258 C) B s.parts.length i k,[]⟩∧0≤k∧k+Qa (s.parts.drop i)≤Qa s.parts∧sk s.parts bs 0=sk (s.parts.drop i) (bs.drop i) k)
    s.parts.length (by unfold oa;omega) _ ⟨0,rfl,by omega,by simp,rfl⟩ ?_ ?_) (fun r h=>h.2)
   ·rintro i t hi ⟨k,rfl,hk0,hk1,hs⟩
    have hpo:=Aa.parts s.parts[i] (List.getElem_mem hi)
    have hib:i < bs.length:=by omega
    have a3:=hB.Uc hib
    have hbr:=hB.UH bs[i] (List.getElem_mem hib)
    have hd:s.parts.drop i=s.parts[i]::s.parts.drop (i+1):=List.drop_eq_getElem_cons hi
    have hdb:bs.drop i=bs[i]::bs.drop (i+1):=List.drop_eq_getElem_cons hib
    have hrb:=Vq (x:=bs[i]) (n:=0) hpo.2
    rw[hd,Qa] at hk1
    rw[hd,hdb,sk] at hs
    have hle:=vn Aa.parts (i+1)
    have hpos:=Kf (ls:=s.parts.drop (i+1)) fun x hx=>Aa.parts x (List.mem_of_mem_drop hx)
    have hsz:=Fh hpo
    have a1:=hia hi
    have a4:=dR (ls:=s.parts) (i:=i)
    have a5:=jW (ls:=s.parts) (i:=i) (y:=(bs[i]).toNat) (by omega)
    rw[yN hi] at a5
    generalize aI s.parts i=R at *
    generalize s.parts[i]=l at *
    generalize bs[i]=x at *
    have hwp:Qu l x.toNat= .int .u16 (if (Gf x 0 l).2 then (Gf x 0 l).1+1 else 0):=by unfold Qu;rw[Int.toNat_of_nonneg hbr.1]
    rw[hwp] at a5
    have e1:decide ((i:Int) < (s.parts.length:Int))=true:=Ga (by omega)
    have t2:=Ua hi (by unfold maxLen;omega)
    have hidx:(0≤x∧x < ((256:Nat):Int))=True:=eq_true (by omega)
    obtain⟨⟨d,is⟩,hrk2⟩:∃ r,r=Gf x 0 l:=⟨_,rfl⟩
    rw[← hrk2] at hs hrb a5
    generalize hQ:LN _ _ i=Q
    cases is with
    |false=>
     simp only[Bool.false_eq_true,if_false] at hs a5
     have t3:IntKind.i64.wrap 0=0:=rfl
     have z1:((0:Int)==0)=true:=rfl
     simp -implicitDefEqProofs only[SX,sevalprocAttr,Vd,e1,a1,a3,a5,sB,MX,Na,hidx,t3,z1,zJ]
     subst hQ
     exact⟨_,.inl ⟨rfl,by simp[Tr.aa],by simp[Tr.aa],hs⟩⟩
    |true=>
     simp only[if_true] at hs a5
     have hb2:=hrb rfl
     simp only at hb2
     have hmul:d * Qa (s.parts.drop (i+1))+Qa (s.parts.drop (i+1))≤Qa (s.parts.drop (i+1)) * Ic 0 l:=by
      have h1:(d+1) * Qa (s.parts.drop (i+1))≤Ic 0 l * Qa (s.parts.drop (i+1)):=Int.mul_le_mul_of_nonneg_right (by omega) (by omega)
      rw[Int.add_mul,Int.one_mul,Int.mul_comm (Ic 0 l)] at h1
      exact h1
     have hm0:0≤d * Qa (s.parts.drop (i+1)):=Int.mul_nonneg (by omega) (by omega)
     have t3:IntKind.i64.wrap (d+1)=d+1:=Da (by omega)
     have t6:IntKind.i64.wrap (d+1 - 1)=d:=by rw[show d+1 - 1=d by omega];exact Da (by omega)
     have z1:((d+1:Int)==0)=false:=by simp;omega
     have t4:IntKind.i64.wrap (d * Qa (s.parts.drop (i+1)))=d * Qa (s.parts.drop (i+1)):=Da (by omega)
     have t5:IntKind.i64.wrap (k+d * Qa (s.parts.drop (i+1)))=k+d * Qa (s.parts.drop (i+1)):=Da (by omega)
     simp -implicitDefEqProofs only[SX,sevalprocAttr,Vd,e1,t2,t3,t4,t5,t6,z1,a1,a3,a4,a5,sB,MX,Na,hidx,ga,za,AV.cut,qa,zJ]
     subst hQ
     exact⟨_,rfl,by omega,by omega,hs⟩
   ·rintro t ⟨k,rfl,hk0,hk1,hs⟩
    rw[List.drop_length,yy] at hs
    have e1:decide ((s.parts.length:Int) < (s.parts.length:Int))=false:=Ia (by omega)
    generalize hQ:(fun r:Ex×St=>r.1.stop=true∧_)=Q
    simp -implicitDefEqProofs only[SX,sevalprocAttr,Vd,e1,zJ]
    subst hQ
    exact⟨rfl,_,.inr ⟨k,rfl,by simp[Tr.aa],hs⟩⟩
  obtain⟨r,h1,E,h2⟩:=Fc hloop
  have h1':gb (fa (ta (Ca (fun _=>none) 8) Vd) (ga 0 [0,1,6,21,22])) oa ⟨((((Tr.lf.set 22 (.pv (.int .i64 0))).set 21 (.pv (i64 s.parts.length))).set 6 (.pv (.int .i64 0))).set 1 (.pv B)).set 0 (.pv (.rp [.lit 258 C] 0)),[]⟩=some r:=h1
  have d1:((bs.length:Int) != (s.parts.length:Int))=false:=by rw[hlen];simp
  rw[hrk]
  rcases h2 with⟨rfl,h4,h5,hn⟩ | ⟨k,rfl,h6,hk⟩
  ·refine⟨fun k hk=>by (rw[hn] at hk;cases hk),fun _=> ?_⟩
   simp -implicitDefEqProofs only[Ye,SX,sevalprocAttr,nh,qb,sB,Na,lB,hcl,d1,ga,za,AV.cut,qa,h1',h4,h5]
  ·refine⟨fun k' hk'=> ?_,fun hn=>by (rw[hk] at hn;cases hn)⟩
   obtain rfl:k=k':=Option.some.inj (hk.symm.trans hk')
   simp -implicitDefEqProofs only[Ye,SX,sevalprocAttr,nh,qb,sB,Na,lB,hcl,d1,ga,za,AV.cut,qa,h1',h6]
 ·have d1:((bs.length:Int) != (s.parts.length:Int))=true:=by
   have:(bs.length:Int)≠(s.parts.length:Int):=by omega
   simp[this]
  have hrk:qn s bs=none:=by unfold qn;rw[if_neg hlen]
  refine⟨fun k hk=>by (rw[hrk] at hk;cases hk),fun _=> ?_⟩
  simp -implicitDefEqProofs only[Ye,SX,sevalprocAttr,nh,sB,Na,lB,hcl,d1]
theorem tU {l:List (Int×Int)} (h:Bd l) {k x:Int} (h0:0≤k) (h1:k < Ic 0 l) (hx:fR k l=some x):(Ek l)[k.toNat]? =some x:=by
 obtain⟨y,q1,_,_,_,q5⟩:=HA h.2 h0 h1
 rw[hx] at q1;injection q1 with q1;subst q1
 have hr:=q5 0
 obtain⟨m,e1,e2⟩:=fu (n:=0) h.2 (by rw[hr])
 rw[hr] at e2
 simp only at e2
 rw[show k.toNat=m by omega];exact e1
abbrev HN (C:PV) (n i k:Int) (es:List PV):Tr:=((((Tr.lf.set 19 (.pv (i64 i))).set 18 (.pv (i64 n))).set 5 (.uq 0 false 1 es)).set 1 (.pv (i64 k))).set 0 (.pv (.rp [C] 0))
theorem aD {s:Yb} (Aa:xe s) {k:Int} (h0:0≤k) (h1:k < Qa s.parts):xi [Yi s.parts,i64 k]=some (.lit 1 ((Cl s.parts k).map (PV.int .u8))):=by
 have h8:=Aa.hi
 have hpr:=Aa.prod.2
 have hia:=fun {i:Nat} (hi:i < s.parts.length)=>IG (ls:=s.parts) hi
 have hcl:((List.range s.parts.length).map (dH s.parts)).length=s.parts.length:=by simp
 have hdg:Yi s.parts= .rp [.lit 258 ((List.range s.parts.length).map (dH s.parts))] 0:=rfl
 rw[hdg]
 generalize (List.range s.parts.length).map (dH s.parts)=C at *
 have hloop:Md (fun r=>∃ E H,r=(.exit 0,⟨E,H⟩)∧E.get 5= .uq 0 false 1 ((Cl s.parts k).map (PV.int .u8)))
  (gb (fa (ta (Ca (fun _=>none) 8) uf) (ga 1 [0,1,5,18,19])) oa ⟨HN (.lit 258 C) s.parts.length 0 k [],[.tok 1 0 false]⟩):=by
  refine wa (yb (fun i t=>∃ j es,t=⟨HN (.lit 258 C) s.parts.length i j (es.map (PV.int .u8)),[.tok 1 i false]⟩∧0≤j∧j < Qa (s.parts.drop i)∧es.length=i∧Cl s.parts k=es++Cl (s.parts.drop i) j)
   s.parts.length (by unfold oa;omega) _ ⟨k,[],rfl,h0,h1,rfl,rfl⟩ ?_ ?_) (fun r h=>h.2)
  ·rintro i t hi ⟨j,es,rfl,hj0,hj1,hel,hs⟩
   have hpo:=Aa.parts s.parts[i] (List.getElem_mem hi)
   have hd:s.parts.drop i=s.parts[i]::s.parts.drop (i+1):=List.drop_eq_getElem_cons hi
   rw[hd,Qa] at hj1
   rw[hd,Cl] at hs
   have hpos:=Kf (ls:=s.parts.drop (i+1)) fun x hx=>Aa.parts x (List.mem_of_mem_drop hx)
   have hle:=vn Aa.parts (i+1)
   have hdv:=IW hj0 hpos hj1
   obtain⟨x,q3,q4,q5,_⟩:=HA hpo.2 hdv.1 hdv.2.1
   rw[q3,Option.getD_some] at hs
   have hm:=tU hpo hdv.1 hdv.2.1 q3
   have hml:=getElem?_lt hm
   have hle2:=vn Aa.parts i
   rw[hd,Qa] at hle2
   have t3:IntKind.i64.wrap (j.tdiv (Qa (s.parts.drop (i+1))))=j.tdiv (Qa (s.parts.drop (i+1))):=Da (by
    have:=hdv.2.2.2.2
    have h5:j.tdiv (Qa (s.parts.drop (i+1))) * 1≤j.tdiv (Qa (s.parts.drop (i+1))) * Qa (s.parts.drop (i+1)):=Int.mul_le_mul_of_nonneg_left hpos hdv.1
    omega)
   have a1:=hia hi
   have a4:=dR (ls:=s.parts) (i:=i)
   have a5:=aW (ls:=s.parts) (i:=i)
   rw[yN hi] at a5
   generalize aI s.parts i=R at *
   generalize s.parts[i]=l at *
   have a6:∀ H,ua H 1 (.pv (Uo l)) (j.tdiv (Qa (s.parts.drop (i+1))))=some (.pv (.rp [.int .u8 x] 0)):=fun H=>by
    simp only[ua,Uo]
    rw[if_pos ⟨trivial,by unfold Fa;rw[List.length_map];omega⟩,List.getElem?_map,hm];rfl
   have e1:decide ((i:Int) < (s.parts.length:Int))=true:=Ga (by omega)
   have t2:=Ua hi (by unfold maxLen;omega)
   have z0:(Qa (s.parts.drop (i+1))=0)=False:=by simp;omega
   have hap:=cr (A:=[.tok 1 i false]) (id:=0) (n:=i) (h:= .uq) (nl:=false) (bytes:=1) (es:=es.map (PV.int .u8)) rfl (by simp[hel]) (by unfold xb;omega) (.int .u8 x)
   rw[List.set_cons_zero] at hap
   have hbm:(es++[x]).map (PV.int .u8)=es.map (PV.int .u8)++[.int .u8 x]:=by simp
   generalize hpq:Qa (s.parts.drop (i+1))=pr at *
   generalize hQ:LN _ _ i=QQ
   simp -implicitDefEqProofs only[SP,WP,na,sevalprocAttr,uf,e1,t2,t3,z0,a1,a4,a5,a6,sB,Na,hap,ga,za,AV.cut,pa,qa,HN]
   subst hQ
   exact⟨_,es++[x],by rw[hbm],hdv.2.2.1,by rw[hpq];exact hdv.2.2.2.1,by simp[hel],by rw[hs];simp⟩
  ·rintro t ⟨j,es,rfl,hj0,hj1,hel,hs⟩
   rw[List.drop_length,Cl,List.append_nil] at hs
   have e1:decide ((s.parts.length:Int) < (s.parts.length:Int))=false:=Ia (by omega)
   generalize hQ:(fun r:Ex×St=>r.1.stop=true∧_)=Q
   simp -implicitDefEqProofs only[SX,sevalprocAttr,uf,e1,HN]
   subst hQ
   exact⟨rfl,_,_,rfl,by rw[hs];simp[Tr.aa]⟩
 obtain⟨r,g1,E,H,rfl,g6⟩:=Fc hloop
 have g1':gb (fa (ta (Ca (fun _=>none) 8) uf) (ga 1 [0,1,5,18,19])) oa ⟨((((Tr.lf.set 19 (.pv (.int .i64 0))).set 18 (.pv (i64 s.parts.length))).set 5 (.uq 0 false 1 [])).set 1 (.pv (i64 k))).set 0 (.pv (.rp [.lit 258 C] 0)),[.tok 1 0 false]⟩=some (.exit 0,⟨E,H⟩):=g1
 have e4:xb s.parts.length 1:=by unfold xb;omega
 have e2:(0≤(s.parts.length:Int))=True:=by simp
 have e5:((0:Int)≤0)=True:=by simp
 simp -implicitDefEqProofs only[xi,SX,sevalprocAttr,Vj,sB,Na,hcl,eq_true e4,e2,e5,qb,ga,za,AV.cut,pa,qa,g1',g6,Fk,fresh,He,chunk]
end Go.AM.B1
namespace Go.AM.B1
open Go.AM Go.AM.So
theorem Et (H:List ba) (a b c d e f:PV):ya H false 1 (.pv (.rp [a,b,c,d,e,f] 2))=some (.pv c)∧ya H false 1 (.pv (.rp [a,b,c,d,e,f] 3))=some (.pv d)∧ya H false 1 (.pv (.rp [a,b,c,d,e,f] 4))=some (.pv e)∧ya H false 1 (.pv (.rp [a,b,c,d,e,f] 5))=some (.pv f)∧ya H false 1 (.pv (.rp [a,b,c,d,e,f] 0))=some (.pv a)∧ya H false 1 (.pv (.rp [a,b,c,d,e,f] 1))=some (.pv b)∧ya H true 1 (.pv (.rp [a,b,c,d,e,f] 0))=some (.pv (.agg [a])):=⟨rfl,rfl,rfl,rfl,rfl,rfl,rfl⟩
section
variable {T:PV} {ss:List Yb} {l:List (List ve)} (hT:Lt T ss l) (ho:∀ e∈l,qp e)
include hT ho
end
end Go.AM.B1
namespace Go.AM.B1
open Go.AM Go.AM.So
def cH (a b:Int):Int:=if a < b then -1 else if a > b then 1 else 0
theorem SJ (a b:Int):ah [i64 a,i64 b]=some (i64 (cH a b)):=by
 have hn:∀ x:Int,Jj [i64 x]=some (.bool false):=fun x=>by
  have z:(x != x)=false:=by simp
  simp -implicitDefEqProofs only[Jj,SX,sevalprocAttr,Po,z]
 unfold cH
 by_cases h1:a < b
 ·have d1:decide (a < b)=true:=Ga h1
  rw[if_pos h1]
  simp -implicitDefEqProofs only[ah,SX,sevalprocAttr,Ni,hn,d1]
 ·have d1:decide (a < b)=false:=Ia h1
  rw[if_neg h1]
  by_cases h2:a > b
  ·have d2:decide (a > b)=true:=Ga h2
   rw[if_pos h2]
   simp -implicitDefEqProofs only[ah,SX,sevalprocAttr,Ni,hn,d1,d2]
  ·have d2:decide (a > b)=false:=Ia h2
   rw[if_neg h2]
   simp -implicitDefEqProofs only[ah,SX,sevalprocAttr,Ni,hn,d1,d2]
theorem MI (call:ab) (a b c u:Int) (H:List ba):cj call qh [.pv (.agg [i64 a,i64 b,i64 c]),.pv (i64 u)] H=some (.pv (i64 (cH a u)),H):=by
 have hc:=SJ a u
 have l0:∀ H,ya H false 1 (.pv (.rp [i64 a,i64 b,i64 c] 0))=some (.pv (i64 a)):=fun H=>rfl
 have l1:∀ H,place H 0 (.pv (.rp [i64 a,i64 b,i64 c] 0))=some (.pv (.rp [i64 a,i64 b,i64 c] 0)):=fun H=>rfl
 simp -implicitDefEqProofs only[SX,sevalprocAttr,qh,l0,l1,hc]
def r0 (r:List Int):Int:=r.getD 0 0
def r1 (r:List Int):Int:=r.getD 1 0
def r2 (r:List Int):Int:=r.getD 2 0
theorem GX {r:List Int} (h:r.length=3):r=[r0 r,r1 r,r2 r]:=by
 match r,h with
 | [a,b,c],_=>rfl
section
variable {RW:PV} {D:List (List Int)} (hR:Th 3 RW (D.map Dn)) (hD:∀ r∈D,r.length=3)
include hR hD
theorem zz {i:Nat} (hi:i < D.length) (H:List ba):ua H 3 (.pv RW) (i:Int)=some (.pv (.rp [i64 (r0 D[i]),i64 (r1 D[i]),i64 (r2 D[i])] 0)):=by
 rw[hR.lit (i:=i) (by simpa using hi)]
 simp only[ua]
 have h3:=GX (hD _ (List.getElem_mem hi))
 rw[if_pos ⟨trivial,by unfold Fa;rw[List.length_map];omega⟩,Int.toNat_natCast,List.getElem?_map,List.getElem?_eq_getElem hi,Option.map_some,Option.map_some]
 congr 4
 show (Dn D[i]).cells=_
 unfold Dn
 generalize D[i]=r at *
 match r,h3 with
 |r,h3=>rw[h3];rfl
variable (hs:∀ i j (h:i < j) (hj:j < D.length),r0 D[i]≤r0 D[j]) (hlen:D.length≤32)
include hs hlen
theorem oW {H:List ba} (hH:Lg H) (u:Int):∃ i:Nat,i≤D.length∧(∀ k (hk:k < D.length),k < i→r0 D[k] < u)∧(∀ k (hk:k < D.length),i≤k→u≤r0 D[k])∧
 cj (Ca Xc 7) Ta [.pv RW,.pv (i64 u),.Wk 41 []] H=some (.pv (.Jc [i64 i,.bool (if h:i < D.length then decide (r0 D[i]=u) else false)]),H):=by
 have lR:=hR.len
 rw[List.length_map] at lR
 have c41:Xc 41=some qh:=rfl
 have r3:∀ H (x y z:PV),ya H true 3 (.pv (.rp [x,y,z] 0))=some (.pv (.agg [x,y,z])):=fun H x y z=>rfl
 have hcl:∀ n,AV.cut n deep (.Wk 41 [])=some (.Wk 41 []):=fun n=>rfl
 have hloop:=fun (E:Tr) (h0:E.get 0= .pv RW) (h1:E.get 1= .pv (i64 u)) (h2:E.get 2= .Wk 41 []) (h8:E.get 8= .pv (i64 D.length)) (h9:E.get 9= .pv (i64 0)) (h10:E.get 10= .pv (i64 D.length))=>
  vP (call:=Ca Xc 7) (b:=Bb) (live:=[0,1,2,8,9,10]) (s:=⟨E,H⟩)
   (Q:=fun r=>∃ E' i,r=(.exit 0,⟨E',H⟩)∧qc [0,1,2,8] E E'∧E'.get 9= .pv (i64 (i:Nat))∧i≤D.length∧(∀ k (hk:k < D.length),k < i→r0 D[k] < u)∧(∀ k (hk:k < D.length),i≤k→u≤r0 D[k]))
   (fun m t=>qc [0,1,2,8] E t.env∧t.H=H∧∃ i j:Nat,t.env.get 9= .pv (i64 i)∧t.env.get 10= .pv (i64 j)∧i≤j∧j≤D.length∧m=j - i∧(∀ k (hk:k < D.length),k < i→r0 D[k] < u)∧(∀ k (hk:k < D.length),j≤k→u≤r0 D[k]))
   D.length (by unfold oa;omega)
   (Ff.all rfl (hH _ (Nat.le_refl _)) (Fit.cons h0 Ba (.cons h1 Ba (.cons h2 (hcl _) (.cons h8 Ba (.cons h9 Ba (.cons h10 Ba (.nil _ _))))))) fun E' hE=>⟨qc.sub hE rfl,rfl,0,D.length,by rw[hE 9 (by simp),h9];rfl,by rw[hE 10 (by simp),h10],by omega,by omega,by omega,fun k _ h=>by omega,fun k hk h=>by omega⟩)
   (by
    rintro m ⟨E1,H1⟩ ⟨k1,k2,i,j,k9,k10,hij,hj,hm,ha,hb⟩
    simp only at k1 k2 k9 k10
    replace k2:=k2.symm
    subst k2
    by_cases hlt:i < j
    ·have e1:decide ((i:Int) < (j:Int))=true:=Ga (by omega)
     have g0:=(k1 0 (by simp)).trans h0
     have g1:=(k1 1 (by simp)).trans h1
     have g2:=(k1 2 (by simp)).trans h2
     obtain⟨h,hh⟩:∃ h,h=(i+j) / 2:=⟨_,rfl⟩
     have hhD:h < D.length:=by omega
     have a1:=zz hR hD hhD
     have hc:=MI (Ca Xc 6) (r0 D[h]) (r1 D[h]) (r2 D[h]) u H
     have w1:IntKind.i64.wrap ((i:Int)+(j:Int))=(i:Int)+j:=Da (by omega)
     have w2:IntKind.u64.wrap ((i:Int)+(j:Int))=(i:Int)+j:=by
      unfold IntKind.wrap;simp[IntKind.signed,IntKind.bits];omega
     have w3:((i:Int)+(j:Int)).fdiv (2 ^ min 1 IntKind.u64.bits)=(h:Int):=by
      show ((i:Int)+(j:Int)).fdiv 2=_
      rw[Int.fdiv_eq_ediv_of_nonneg _ (by omega)];omega
     have w4:IntKind.i64.wrap (h:Int)=(h:Int):=Da (by omega)
     have w5:IntKind.i64.wrap ((h:Int)+1)=((h+1:Nat):Int):=sj (by omega)
     have z0:((1:Int) < 0)=False:=by simp
     generalize hQ:RQ _ _ _ _=Q
     by_cases hcu:r0 D[h] < u
     ·have hcm:cH (r0 D[h]) u= -1:=by unfold cH;rw[if_pos hcu]
      have z1:decide ((-1:Int) < 0)=true:=rfl
      rw[hcm] at hc
      simp -implicitDefEqProofs only[SX,sevalprocAttr,Bb,k9,k10,e1,g0,g1,g2,a1,r3,w1,w2,w3,w4,w5,z0,c41,hc,z1]
      subst hQ
      rw[ej]
      generalize hEE:(Tr.set _ 9 _:Tr)=E2
      have kk:qc [0,1,2,8] E E2:=by
       rw[← hEE]
       repeat refine qc.set ?_ rfl
       exact k1
      have z9:E2.get 9= .pv (i64 (h+1:Nat)):=by rw[← hEE];simp[Tr.aa]
      have z10:E2.get 10= .pv (i64 j):=by rw[← hEE];simp[Tr.aa,k10]
      exact Ff.all rfl (hH _ (Nat.le_refl _)) (Fit.sub (.cons z9 Ba (.cons z10 Ba (Fit.Ze (l:=[0,1,2,8]) (.cons h0 Ba (.cons h1 Ba (.cons h2 (hcl _) (.cons h8 Ba (.nil _ _))))) kk))) rfl) fun E' hE=>⟨j - (h+1),by omega,kk.trans (qc.sub hE rfl),rfl,h+1,j,by rw[hE 9 (by simp),z9],by rw[hE 10 (by simp),z10],by omega,hj,rfl,fun k hk hkh=>by
       rcases Nat.lt_or_ge k h with h5 | h5
       ·exact Int.lt_of_le_of_lt (hs k h h5 hhD) hcu
       ·obtain rfl:k=h:=by omega
        exact hcu,hb⟩
     ·have z1:decide (cH (r0 D[h]) u < 0)=false:=Ia (by unfold cH;rw[if_neg hcu];split <;> omega)
      simp -implicitDefEqProofs only[SX,sevalprocAttr,Bb,k9,k10,e1,g0,g1,g2,a1,r3,w1,w2,w3,w4,w5,z0,c41,hc,z1]
      subst hQ
      rw[ej]
      generalize hEE:(Tr.set _ 10 _:Tr)=E2
      have kk:qc [0,1,2,8] E E2:=by
       rw[← hEE]
       repeat refine qc.set ?_ rfl
       exact k1
      have z9:E2.get 9= .pv (i64 i):=by rw[← hEE];simp[Tr.aa,k9]
      have z10:E2.get 10= .pv (i64 h):=by rw[← hEE];simp[Tr.aa]
      exact Ff.all rfl (hH _ (Nat.le_refl _)) (Fit.sub (.cons z9 Ba (.cons z10 Ba (Fit.Ze (l:=[0,1,2,8]) (.cons h0 Ba (.cons h1 Ba (.cons h2 (hcl _) (.cons h8 Ba (.nil _ _))))) kk))) rfl) fun E' hE=>⟨h - i,by omega,kk.trans (qc.sub hE rfl),rfl,i,h,by rw[hE 9 (by simp),z9],by rw[hE 10 (by simp),z10],by omega,by omega,rfl,ha,fun k hk hkh=>by
       rcases Nat.lt_or_ge h k with h5 | h5
       ·exact Int.le_trans (Int.not_lt.1 hcu) (hs h k h5 hk)
       ·obtain rfl:k=h:=by omega
        omega⟩
    ·obtain rfl:i=j:=by omega
     have e1:decide ((i:Int) < (i:Int))=false:=Ia (by omega)
     generalize hQ:RQ _ _ _ _=Q
     simp -implicitDefEqProofs only[SX,sevalprocAttr,Bb,k9,k10,e1]
     subst hQ
     exact⟨_,i,rfl,by repeat refine qc.set ?_ rfl
                      exact k1,by simp[Tr.aa,k9],hj,ha,hb⟩)
 have key:Md (fun r=>∃ i:Nat,i≤D.length∧(∀ k (hk:k < D.length),k < i→r0 D[k] < u)∧(∀ k (hk:k < D.length),i≤k→u≤r0 D[k])∧r=(.pv (.Jc [i64 i,.bool (if h:i < D.length then decide (r0 D[i]=u) else false)]),H)) (cj (Ca Xc 7) Ta [.pv RW,.pv (i64 u),.Wk 41 []] H):=by
  generalize hQ:(fun r:AV×List ba=>∃ i:Nat,_)=Q
  simp -implicitDefEqProofs only[SX,sevalprocAttr,Ta,lR]
  generalize hEE:(Tr.set _ 10 _:Tr)=E
  refine wa (hloop E (by rw[← hEE];simp[Tr.aa]) (by rw[← hEE];simp[Tr.aa]) (by rw[← hEE];simp[Tr.aa]) (by rw[← hEE];simp[Tr.aa]) (by rw[← hEE];simp[Tr.aa]) (by rw[← hEE];simp[Tr.aa])) ?_
  have h0:E.get 0= .pv RW:=by rw[← hEE];simp[Tr.aa]
  have h1:E.get 1= .pv (i64 u):=by rw[← hEE];simp[Tr.aa]
  have h2:E.get 2= .Wk 41 []:=by rw[← hEE];simp[Tr.aa]
  have h8:E.get 8= .pv (i64 D.length):=by rw[← hEE];simp[Tr.aa]
  rintro r ⟨_,E',i,rfl,k1,k9,hi,ha,hb⟩
  have g0:=(k1 0 (by simp)).trans h0
  have g1:=(k1 1 (by simp)).trans h1
  have g2:=(k1 2 (by simp)).trans h2
  have g8:=(k1 8 (by simp)).trans h8
  by_cases hlt:i < D.length
  ·have e1:decide ((i:Int) < (D.length:Int))=true:=Ga (by omega)
   have a1:=zz hR hD hlt
   have hc:=MI (Ca Xc 6) (r0 D[i]) (r1 D[i]) (r2 D[i]) u H
   have hge:=hb i hlt (Nat.le_refl _)
   have z:(cH (r0 D[i]) u==0)=decide (r0 D[i]=u):=by
    unfold cH
    rw[if_neg (by omega)]
    by_cases h5:r0 D[i] > u
    ·rw[if_pos h5,Ia (by omega)];rfl
    ·rw[if_neg h5,Ga (by omega)];rfl
   simp -implicitDefEqProofs only[SX,sevalprocAttr,k9,g0,g1,g2,g8,e1,a1,r3,c41,hc,z]
   subst hQ
   exact⟨i,hi,ha,hb,by rw[dif_pos hlt]⟩
  ·have e1:decide ((i:Int) < (D.length:Int))=false:=Ia (by omega)
   simp -implicitDefEqProofs only[SX,sevalprocAttr,k9,g0,g1,g2,g8,e1]
   subst hQ
   exact⟨i,hi,ha,hb,by rw[dif_neg hlt]⟩
 obtain⟨r,h1,i,h2,h3,h4,rfl⟩:=Fc key
 exact⟨i,h2,h3,h4,h1⟩
end
theorem cx {ss:List Yb} {r:List Int} (h:r∈Od ss):∃ j,∃ hj:j < ss.length,r=qq ss[j] j:=by
 have:=(cq ss).mem_iff.1 h
 unfold Mi at this
 obtain⟨j,hj,rfl⟩:=List.mem_map.1 this
 have hj:=List.mem_range.1 hj
 exact⟨j,hj,by rw[List.getD_eq_getElem?_getD,List.getElem?_eq_getElem hj];rfl⟩
theorem vG {ss:List Yb} {j:Nat} (hj:j < ss.length):qq ss[j] j∈Od ss:=by
 refine (cq ss).mem_iff.2 ?_
 unfold Mi
 refine List.mem_map.2 ⟨j,List.mem_range.2 hj,?_⟩
 rw[List.getD_eq_getElem?_getD,List.getElem?_eq_getElem hj];rfl
theorem yp (ss:List Yb) (i j:Nat) (h:i < j) (hj:j < (Od ss).length):r0 (Od ss)[i]≤r0 (Od ss)[j]:=by
 obtain⟨h1,h2,h3⟩:=dz 3 0 (Mi ss ss.length).toArray
 have hj':j < (Mi ss ss.length).toArray.size:=by rw[← h1];simpa[Od] using hj
 have h4:=h3 i j h hj'
 have key:∀ k (hk:k < (Od ss).length),Fw 3 0 (Vn 3 0 (Mi ss ss.length).toArray)[k]! =r0 (Od ss)[k]:=by
  intro k hk
  have hk':k < (Vn 3 0 (Mi ss ss.length).toArray).size:=by simpa[Od] using hk
  rw[getElem!_pos _ k hk']
  have e:(Vn 3 0 (Mi ss ss.length).toArray)[k]=(Od ss)[k]:=by simp[Od]
  have h3:=Kw (List.getElem_mem hk)
  rw[e]
  generalize (Od ss)[k]=r at *
  unfold Fw r0
  rw[if_pos h3]
 rw[key i (by omega),key j hj] at h4
 omega
theorem LB (ss:List Yb):(Od ss).Nodup:=by
 refine (cq ss).nodup_iff.2 ?_
 unfold Mi List.Nodup
 rw[List.pairwise_map]
 refine List.Pairwise.imp ?_ (List.nodup_range (n:=ss.length))
 intro i j h e
 unfold qq at e
 injection e with _ e
 injection e with _ e
 injection e with e _
 omega
def has (s:Yb) (u:Int):Prop:=s.first≤u∧u < s.first+Qa s.parts
theorem tC {ss:List Yb} (Aa:wc ss) {i j:Nat} (hi:i < ss.length) (hj:j < ss.length) {u:Int} (h1:has ss[i] u) (h2:has ss[j] u):i=j:=by
 have hap:=Aa.apart
 rw[List.pairwise_iff_getElem] at hap
 have e1:=(Aa.jv _ (List.getElem_mem hi)).ph
 have e2:=(Aa.jv _ (List.getElem_mem hj)).ph
 unfold has at h1 h2
 rcases Nat.lt_trichotomy i j with h | h | h
 ·exact absurd (hap i j hi hj h u) (fun hn=>hn ⟨by omega,by omega⟩)
 ·exact h
 ·exact absurd (hap j i hj hi h u) (fun hn=>hn ⟨by omega,by omega⟩)
section
variable {T:PV} {ss:List Yb} {l:List (List ve)} (hT:Lt T ss l) (Aa:wc ss)
include hT Aa
theorem XS (u:Int):(∃ j,∃ hj:j < ss.length,has ss[j] u∧Jd [T,i64 u]=some (.Jc [.agg [i64 ss[j].first,i64 (ss[j].first+Qa ss[j].parts - 1),i64 j],.bool true]))∨
 ((∀ s∈ss,¬has s u)∧Jd [T,i64 u]=some (.Jc [.agg [i64 0,i64 0,i64 0],.bool false])):=by
 obtain⟨S',NX,DG,RW,rfl,_,_,_,hRW⟩:=hT.ex
 have hrp:=Et (a:=S') (b:=pf l) (c:=NX) (d:=DG) (e:=RW) (f:=i64 (Ae ss))
 have l4:=fun H=>(hrp H).2.2.1
 generalize ([S',pf l,NX,DG,RW,i64 (Ae ss)]:List PV)=R at *
 obtain⟨D,hRW,hDr,hDm,hDh,hDl,hDs,hnd⟩:∃ D:List (List Int),Th 3 RW (D.map Dn)∧(∀ r∈D,r.length=3)∧(∀ r∈D,∃ j,∃ hj:j < ss.length,r=qq ss[j] j)∧(∀ j (hj:j < ss.length),qq ss[j] j∈D)∧D.length=ss.length∧(∀ i j (h:i < j) (hj:j < D.length),r0 D[i]≤r0 D[j])∧D.Nodup:=
  ⟨Od ss,hRW,fun r hr=>Kw hr,fun r hr=>cx hr,fun j hj=>vG hj,ql ss,yp ss,LB ss⟩
 have h32:=Aa.len
 have hg:Lg [ba.box [.pv (i64 0),.pv (i64 0),.pv (i64 0)]]:=fun n _ o ho=>by
  rw[List.mem_singleton] at ho;subst ho;exact bo n [i64 0,i64 0,i64 0]
 obtain⟨i,hi,ha,hb,hrun⟩:=oW hRW hDr hDs (by omega) hg u
 have c40:Xc 40=some Ta:=rfl
 have b0:∀ a b c d e f,Ma [ba.box [.pv a,.pv b,.pv c]] 3 (.ptr 0 0) (.pv (.agg [.int .i64 d,.int .i64 e,.int .i64 f]))=some [.box [.pv (i64 d),.pv (i64 e),.pv (i64 f)]]:=fun a b c d e f=>rfl
 have ld:∀ a b c,ya [ba.box [.pv a,.pv b,.pv c]] true 3 (.ptr 0 0)=some (.pv (.agg [a,b,c])):=fun a b c=>rfl
 have r3:∀ H (x y z:PV),ya H true 3 (.pv (.rp [x,y,z] 0))=some (.pv (.agg [x,y,z])):=fun H x y z=>rfl
 have r31:∀ H (x y z:PV),ya H false 1 (.pv (.rp [x,y,z] 1))=some (.pv y):=fun H x y z=>rfl
 have fin:∀ k (hk:k < D.length),(∀ m (hm:m < D.length),k < m→u < r0 D[m])→r0 D[k]≤u→
  ((u≤r1 D[k]→∃ j,∃ hj:j < ss.length,has ss[j] u∧PV.agg [i64 (r0 D[k]),i64 (r1 D[k]),i64 (r2 D[k])]= .agg [i64 ss[j].first,i64 (ss[j].first+Qa ss[j].parts - 1),i64 j])∧(¬ u≤r1 D[k]→∀ s∈ss,¬has s u)):=by
  intro k hk hgt hle
  obtain⟨j',hj',hr'⟩:=hDm _ (List.getElem_mem hk)
  constructor
  ·intro h1
   rw[hr'] at h1 hle ⊢
   refine⟨j',hj',⟨hle,?_⟩,rfl⟩
   have:u≤ss[j'].first+Qa ss[j'].parts - 1:=h1
   omega
  ·intro h1 s hs hh
   obtain⟨j,hj,rfl⟩:=List.getElem_of_mem hs
   obtain⟨m,hm,hmr⟩:=List.getElem_of_mem (hDh j hj)
   have hh':=hh
   unfold has at hh'
   have hp:=Kf (Aa.jv _ (List.getElem_mem hj')).parts
   rcases Nat.lt_or_ge k m with h | h
   ·have:=hgt m hm h
    rw[hmr] at this
    have:u < ss[j].first:=this
    omega
   ·have h3:r0 D[m]≤r0 D[k]:=by
     rcases Nat.lt_or_ge m k with h5 | h5
     ·exact hDs m k h5 hk
     ·have:m=k:=by omega
      subst this;exact Int.le_refl _
    rw[hmr] at h3
    rw[hr'] at h3 hle h1
    have h3:ss[j].first≤ss[j'].first:=h3
    have hle:ss[j'].first≤u:=hle
    have e:j=j':=tC Aa hj hj' (u:=ss[j'].first) ⟨h3,by omega⟩ ⟨Int.le_refl _,by omega⟩
    subst e
    have:¬u≤ss[j].first+Qa ss[j].parts - 1:=h1
    omega
 have step:∀ (k:Nat) (hk:k < D.length),(∀ q (hq:q < D.length),k < q→u < r0 D[q])→r0 D[k]≤u→∀ R0:PV,
  (u≤r1 D[k]→R0= .Jc [.agg [i64 (r0 D[k]),i64 (r1 D[k]),i64 (r2 D[k])],.bool true])→(¬ u≤r1 D[k]→R0= .Jc [.agg [i64 0,i64 0,i64 0],.bool false])→
  (∃ j,∃ hj:j < ss.length,has ss[j] u∧R0= .Jc [.agg [i64 ss[j].first,i64 (ss[j].first+Qa ss[j].parts - 1),i64 j],.bool true])∨((∀ s∈ss,¬has s u)∧R0= .Jc [.agg [i64 0,i64 0,i64 0],.bool false]):=by
  intro k hk h1 h2 R0 h3 h4
  obtain⟨f1,f2⟩:=fin k hk h1 h2
  by_cases hc:u≤r1 D[k]
  ·obtain⟨j,hj,g1,g2⟩:=f1 hc
   exact .inl ⟨j,hj,g1,by rw[h3 hc,g2]⟩
  ·exact .inr ⟨f2 hc,h4 hc⟩
 suffices key:∃ R0,Jd [.rp R 0,i64 u]=some R0∧((∃ j,∃ hj:j < ss.length,has ss[j] u∧R0= .Jc [.agg [i64 ss[j].first,i64 (ss[j].first+Qa ss[j].parts - 1),i64 j],.bool true])∨((∀ s∈ss,¬has s u)∧R0= .Jc [.agg [i64 0,i64 0,i64 0],.bool false])) by
  obtain⟨R0,k1,⟨j,hj,k2,rfl⟩ | ⟨k2,rfl⟩⟩:=key
  ·exact .inl ⟨j,hj,k2,k1⟩
  ·exact .inr ⟨k2,k1⟩
 by_cases his:∃ h:i < D.length,r0 D[i]=u
 ·obtain⟨h,he⟩:=his
  rw[dif_pos h,Ga he] at hrun
  have hgt:∀ q (hq:q < D.length),i < q→u < r0 D[q]:=by
   intro q hq hiq
   have h3:=hDs i q hiq hq
   rcases Int.lt_or_le u (r0 D[q]) with h5 | h5
   ·exact h5
   ·exfalso
    obtain⟨j,hj,hr⟩:=hDm _ (List.getElem_mem h)
    obtain⟨j',hj',hr'⟩:=hDm _ (List.getElem_mem hq)
    have hp:=Kf (Aa.jv _ (List.getElem_mem hj)).parts
    have hp':=Kf (Aa.jv _ (List.getElem_mem hj')).parts
    have e1:ss[j].first=u:=by rw[hr] at he;exact he
    have e2:ss[j'].first≤u:=by rw[hr'] at h5;exact h5
    have e3:u≤ss[j'].first:=by rw[hr',he] at h3;exact h3
    have:j=j':=tC Aa hj hj' (u:=u) ⟨by omega,by omega⟩ ⟨by omega,by omega⟩
    subst this
    have:=(List.getElem_inj hnd).1 (hr.trans hr'.symm)
    omega
  have a1:=zz hRW hDr h
  have z1:decide ((i:Int) < 0)=false:=Ia (by omega)
  refine⟨_,?_,step i h hgt (by omega) (if u≤r1 D[i] then .Jc [.agg [i64 (r0 D[i]),i64 (r1 D[i]),i64 (r2 D[i])],.bool true] else .Jc [.agg [i64 0,i64 0,i64 0],.bool false]) (fun h=>by rw[if_pos h]) (fun h=>by rw[if_neg h])⟩
  by_cases hc:u≤r1 D[i]
  ·have z2:decide (u > r1 D[i])=false:=Ia (by omega)
   rw[if_pos hc]
   simp -implicitDefEqProofs only[Jd,SX,sevalprocAttr,eg,kv,sB,l4,c40,hrun,z1,a1,z2,r31,r3,b0,ld]
  ·have z2:decide (u > r1 D[i])=true:=Ga (by omega)
   rw[if_neg hc]
   simp -implicitDefEqProofs only[Jd,SX,sevalprocAttr,eg,kv,sB,l4,c40,hrun,z1,a1,z2,r31,r3,b0,ld]
 ·have hf:(if h:i < D.length then decide (r0 D[i]=u) else false)=false:=by
   by_cases h:i < D.length
   ·rw[dif_pos h];exact Ia fun e=>his ⟨h,e⟩
   ·rw[dif_neg h]
  rw[hf] at hrun
  have w1:IntKind.i64.wrap ((i:Int) - 1)=(i:Int) - 1:=Da (by omega)
  cases i with
  |zero=>
   have z1:decide ((-1:Int) < 0)=true:=rfl
   have w1:IntKind.i64.wrap (-1)= -1:=Da (by decide)
   have hrun:cj (Ca Xc 7) Ta [.pv RW,.pv (i64 u),.Wk 41 []] [.box [.pv (i64 0),.pv (i64 0),.pv (i64 0)]]=some (.pv (.Jc [i64 0,.bool false]),[.box [.pv (i64 0),.pv (i64 0),.pv (i64 0)]]):=hrun
   refine⟨.Jc [.agg [i64 0,i64 0,i64 0],.bool false],?_,.inr ⟨fun s hs hh=> ?_,rfl⟩⟩
   ·simp -implicitDefEqProofs only[Jd,SX,sevalprocAttr,eg,kv,sB,l4,c40,hrun,w1,z1,b0,ld]
   ·obtain⟨j,hj,rfl⟩:=List.getElem_of_mem hs
    obtain⟨m,hm,hmr⟩:=List.getElem_of_mem (hDh j hj)
    have h6:=hb m hm (Nat.zero_le _)
    have hne:r0 D[m]≠u:=by
     intro e
     have h7:=hb 0 (by omega) (Nat.le_refl _)
     have h8:r0 D[0]≤r0 D[m]:=by
      rcases Nat.eq_zero_or_pos m with h9 | h9
      ·subst h9;exact Int.le_refl _
      ·exact hDs 0 m h9 hm
     exact his ⟨by omega,by omega⟩
    rw[hmr] at h6 hne
    have h6:u≤ss[j].first:=h6
    have hne:ss[j].first≠u:=hne
    unfold has at hh;omega
  |succ i=>
   have h:i < D.length:=by omega
   have w2:((i+1:Nat):Int) - 1=(i:Int):=by omega
   rw[w2] at w1
   have z1:decide ((i:Int) < 0)=false:=Ia (by omega)
   have a1:=zz hRW hDr h
   have hlt:=ha i h (by omega)
   have hgt:∀ q (hq:q < D.length),i < q→u < r0 D[q]:=by
    intro q hq hiq
    have h6:=hb q hq (by omega)
    rcases Int.lt_or_le u (r0 D[q]) with h5 | h5
    ·exact h5
    ·exfalso
     have h7:=hb (i+1) (by omega) (Nat.le_refl _)
     have h8:r0 D[i+1]≤r0 D[q]:=by
      rcases Nat.lt_or_ge (i+1) q with h9 | h9
      ·exact hDs (i+1) q h9 hq
      ·have:i+1=q:=by omega
       subst this;exact Int.le_refl _
     exact his ⟨by omega,by omega⟩
   refine⟨_,?_,step i h hgt (by omega) (if u≤r1 D[i] then .Jc [.agg [i64 (r0 D[i]),i64 (r1 D[i]),i64 (r2 D[i])],.bool true] else .Jc [.agg [i64 0,i64 0,i64 0],.bool false]) (fun h=>by rw[if_pos h]) (fun h=>by rw[if_neg h])⟩
   by_cases hc:u≤r1 D[i]
   ·have z2:decide (u > r1 D[i])=false:=Ia (by omega)
    rw[if_pos hc]
    simp -implicitDefEqProofs only[Jd,SX,sevalprocAttr,eg,kv,sB,l4,c40,hrun,w1,w2,z1,a1,z2,r31,r3,b0,ld]
   ·have z2:decide (u > r1 D[i])=true:=Ga (by omega)
    rw[if_neg hc]
    simp -implicitDefEqProofs only[Jd,SX,sevalprocAttr,eg,kv,sB,l4,c40,hrun,w1,w2,z1,a1,z2,r31,r3,b0,ld]
end
end Go.AM.B1
namespace Go.AM.B1
open Go.AM Go.AM.So
def LV (u:Int):List Yb→Option (List Int)
 | []=>none
 |s::r=>if s.first≤u∧u < s.first+Qa s.parts then some (Cl s.parts (u - s.first)) else LV u r
end Go.AM.B1
namespace Go.AM.B1
open Go.AM Go.AM.So
theorem SN {u:Int}:∀ {ss:List Yb},(∀ s∈ss,¬has s u)→LV u ss=none
 | [],_=>rfl
 |s::ss,h=>by
  have h1:=h s (by simp)
  unfold has at h1
  rw[LV,if_neg h1]
  exact SN fun x hx=>h x (by simp[hx])
theorem fW {u:Int} {ss:List Yb} (Aa:wc ss) {j:Nat} (hj:j < ss.length) (h:has ss[j] u):LV u ss=some (Cl ss[j].parts (u - ss[j].first)):=by
 have key:∀ (l:List Yb) (j:Nat) (hj:j < l.length),(∀ i (hi:i < l.length),has l[i] u→i=j)→has l[j] u→LV u l=some (Cl l[j].parts (u - l[j].first)):=by
  intro l
  induction l with
  |nil=>intro j hj;simp at hj
  |cons s l ih=>
   intro j hj hone hh
   rw[LV]
   cases j with
   |zero=>rw[if_pos (show s.first≤u∧u < s.first+Qa s.parts from hh)];rfl
   |succ j=>
    rw[if_neg (fun hc:s.first≤u∧u < s.first+Qa s.parts=>by have:=hone 0 (by simp) hc;omega)]
    exact ih j (by simpa using hj) (fun i hi hx=>by have:=hone (i+1) (by simpa using hi) hx;omega) hh
 exact key ss j hj (fun i hi hx=>tC Aa hi hj hx h) h
section
variable {T:PV} {ss:List Yb} {l:List (List ve)} (hT:Lt T ss l) (Aa:wc ss)
include hT Aa
theorem kS (u:Int):Hf [T,i64 u]=some (match LV u ss with | some b=> .Jc [.lit 1 (b.map u8),.bool true] | none=> .Jc [.ma,.bool false]):=by
 have hrow:=XS hT Aa u
 obtain⟨S',NX,DG,RW,rfl,_,_,hDG,_⟩:=hT.ex
 have hrp:=Et (a:=S') (b:=pf l) (c:=NX) (d:=DG) (e:=RW) (f:=i64 (Ae ss))
 have l3:=fun H=>(hrp H).2.1
 generalize ([S',pf l,NX,DG,RW,i64 (Ae ss)]:List PV)=R at *
 have st:∀ a b c,Ma [ba.box [.pv (i64 0),.pv (i64 0),.pv (i64 0)]] 3 (.ptr 0 0) (.pv (.agg [i64 a,i64 b,i64 c]))=some [.box [.pv (i64 a),.pv (i64 b),.pv (i64 c)]]:=fun a b c=>rfl
 rcases hrow with⟨j,hj,hh,hr⟩ | ⟨hn,hr⟩
 ·rw[fW Aa hj hh]
  have hs:=Aa.jv _ (List.getElem_mem hj)
  have hh':=hh
  unfold has at hh'
  have hun:=aD hs (k:=u - ss[j].first) (by omega) (by omega)
  have hf0:=hs.f0
  have hl:=hs.ph
  have hl2:=hs.last
  have a1:∀ H,ua H 1 (.pv DG) (j:Int)=some (.pv (.rp [Yi ss[j].parts] 0)):=fun H=>by
   rw[hDG.lit (i:=j) (by simpa using hj)]
   simp only[ua]
   rw[if_pos ⟨trivial,by unfold Fa;rw[List.length_map];omega⟩,Int.toNat_natCast,List.getElem?_map,List.getElem?_eq_getElem hj];rfl
  generalize ss[j]=s at *
  have w1:IntKind.i64.wrap (u - s.first)=u - s.first:=Da (by omega)
  have p0:∀ a b c d,place [ba.box [.pv a,.pv b,.pv c]] d (.ptr 0 0)=some (.ptr 0 (0+d)):=fun a b c d=>rfl
  have q2:∀ a b c,ya [ba.box [.pv a,.pv b,.pv c]] false 1 (.ptr 0 2)=some (.pv c):=fun a b c=>rfl
  have q0:∀ a b c,ya [ba.box [.pv a,.pv b,.pv c]] false 1 (.ptr 0 0)=some (.pv a):=fun a b c=>rfl
  simp -implicitDefEqProofs only[Hf,SX,sevalprocAttr,Hi,hr,st,sB,l3,p0,q2,q0,a1,Na,w1,hun]
 ·rw[SN hn]
  simp -implicitDefEqProofs only[Hf,SX,sevalprocAttr,Hi,hr,st]
def jJ (bs:List Int):List Yb→Option Int
 | []=>none
 |s::ss=>match qn s bs with
  |some k=>some (s.first+k)
  |none=>jJ bs ss
omit hT Aa in
theorem rO {bs:List Int} {ss:List Yb} {i:Nat} (hi:i < ss.length):jJ bs (ss.drop i)=match qn ss[i] bs with | some k=>some (ss[i].first+k) | none=>jJ bs (ss.drop (i+1)):=by
 rw[List.drop_eq_getElem_cons hi,jJ]
theorem tT {B:PV} {bs:List Int} (hB:uo B bs):Li [T,B]=some (match jJ bs ss with | some v=> .Jc [i64 v,.bool true] | none=> .Jc [i64 0,.bool false]):=by
 obtain⟨S',NX,DG,RW,rfl,hS',_,hDG,_⟩:=hT.ex
 have hrp:=Et (a:=S') (b:=pf l) (c:=NX) (d:=DG) (e:=RW) (f:=i64 (Ae ss))
 have l3:=fun H=>(hrp H).2.1
 have l0:=fun H=>(hrp H).2.2.2.2.1
 generalize ([S',pf l,NX,DG,RW,i64 (Ae ss)]:List PV)=R at *
 have lD:=hDG.len
 rw[List.length_map] at lD
 have h32:=Aa.len
 have hB1:=hB.one
 obtain⟨D,hD⟩:∃ D,D=jJ bs ss:=⟨_,rfl⟩
 rw[← hD]
 have hloop:=fun (E:Tr) (h0:E.get 0= .pv (.rp R 0)) (h1:E.get 1= .pv B) (h15:E.get 15= .pv DG) (h16:E.get 16= .pv (i64 ss.length)) (h17:E.get 17= .pv (i64 0))=>
  bl (call:=Ca (fun _=>none) 8) (b:=Nf) (live:=[0,1,15,16,17]) (s:=⟨E,[]⟩) (Q:=fun r=>(∃ E',r=(.exit 0,⟨E',[]⟩)∧D=none)∨∃ E' v,r=(.ret,⟨E',[]⟩)∧E'.get 4= .pv (i64 v)∧E'.get 5= .pv (.bool true)∧D=some v)
   (fun i t=>qc [0,1,15,16] E t.env∧t.env.get 17= .pv (i64 i)∧t.H=[]∧D=jJ bs (ss.drop i)) ss.length (by unfold oa;omega)
   (Ff.all rfl (by simp) (Fit.cons h0 Ba (.cons h1 Ba (.cons h15 Ba (.cons h16 Ba (.cons h17 Ba (.nil _ _)))))) fun E' hE=>⟨qc.sub hE rfl,by rw[hE 17 (by simp),h17];rfl,rfl,hD⟩)
   (by
    rintro i ⟨E1,H1⟩ hi ⟨k1,k2,k3,k5⟩
    simp only at k1 k2 k3
    subst k3
    have g0:=(k1 0 (by simp)).trans h0
    have g1:=(k1 1 (by simp)).trans h1
    have g15:=(k1 15 (by simp)).trans h15
    have g16:=(k1 16 (by simp)).trans h16
    have hs:=Aa.jv _ (List.getElem_mem hi)
    have hrk:=sH hB hs
    rw[rO hi] at k5
    have hdc:(Yi ss[i].parts).cells=[Yi ss[i].parts]:=rfl
    have a1:∀ H,ua H 1 (.pv DG) (i:Int)=some (.pv (.rp [Yi ss[i].parts] 0)):=fun H=>by
     rw[hDG.lit (i:=i) (by simpa using hi)]
     simp only[ua]
     rw[if_pos ⟨trivial,by unfold Fa;rw[List.length_map];omega⟩,Int.toNat_natCast,List.getElem?_map,List.getElem?_eq_getElem hi];rfl
    have a2:∀ H,ua H 2 (.pv S') (i:Int)=some (.pv (.rp [.lit 1 (ss[i].parts.map Yd),i64 ss[i].first] 0)):=fun H=>by
     rw[hS'.lit (i:=i) (by simpa using hi)]
     simp only[ua]
     rw[if_pos ⟨trivial,by unfold Fa;rw[List.length_map];omega⟩,Int.toNat_natCast,List.getElem?_map,List.getElem?_eq_getElem hi];rfl
    have hrb:=fun k hk=>uK (b:=bs) (k:=k) hs hk
    generalize ss[i]=s at *
    have hf0:=hs.f0
    have e1:decide ((i:Int) < (ss.length:Int))=true:=Ga (by omega)
    have t1:IntKind.i64.wrap ((i:Int)+1)=((i+1:Nat):Int):=sj (by omega)
    generalize hQ:RQ _ _ _ _=Q
    cases hrs:qn s bs with
    |some k=>
     rw[hrs] at k5
     have hr1:=hrk.1 k hrs
     have hb:=hrb k hrs
     have w1:IntKind.i64.wrap (s.first+k)=s.first+k:=Da (by omega)
     simp -implicitDefEqProofs only[SX,sevalprocAttr,Nf,g0,g1,g15,g16,k2,e1,a1,a2,Na,sB,l0,Oh,hr1,w1]
     subst hQ
     exact .inr ⟨_,_,rfl,by simp[Tr.aa],by simp[Tr.aa],k5⟩
    |none=>
     rw[hrs] at k5
     have hr1:=hrk.2 hrs
     simp -implicitDefEqProofs only[SX,sevalprocAttr,Nf,g0,g1,g15,g16,k2,e1,a1,Na,hr1,t1]
     subst hQ
     rw[ej]
     generalize hEE:(Tr.set _ 17 _:Tr)=E2
     have kk:qc [0,1,15,16] E E2:=by
      rw[← hEE]
      repeat refine qc.set ?_ rfl
      exact k1
     have z17:E2.get 17= .pv (i64 (i+1:Nat)):=by rw[← hEE];simp[Tr.aa]
     exact Ff.all rfl (by simp) (Fit.sub (.cons z17 Ba (Fit.Ze (l:=[0,1,15,16]) (.cons h0 Ba (.cons h1 Ba (.cons h15 Ba (.cons h16 Ba (.nil _ _))))) kk)) rfl) fun E' hE=>⟨kk.trans (qc.sub hE rfl),by rw[hE 17 (by simp),z17],rfl,k5⟩)
   (by
    rintro⟨E1,H1⟩ ⟨k1,k2,k3,k5⟩
    simp only at k1 k2 k3
    subst k3
    have g16:=(k1 16 (by simp)).trans h16
    rw[List.drop_length] at k5
    have e1:decide ((ss.length:Int) < (ss.length:Int))=false:=Ia (by omega)
    generalize hQ:(fun r:Ex×St=>r.1.stop=true∧_)=Q
    simp -implicitDefEqProofs only[SX,sevalprocAttr,Nf,g16,k2,e1]
    subst hQ
    exact⟨rfl,.inl ⟨_,rfl,k5⟩⟩)
 refine Xj ?_
 generalize hQ:(fun x:PV=>x=_)=Q
 simp -implicitDefEqProofs only[Li,SX,sevalprocAttr,Mk,kv,sB,l3,lD]
 generalize hEE:(Tr.set _ 17 _:Tr)=E
 refine wa (hloop E (by rw[← hEE];simp[Tr.aa]) (by rw[← hEE];simp[Tr.aa]) (by rw[← hEE];simp[Tr.aa]) (by rw[← hEE];simp[Tr.aa]) (by rw[← hEE];simp[Tr.aa])) ?_
 rintro r ⟨_,⟨E',rfl,z1⟩ | ⟨E',v,rfl,z4,z5,z6⟩⟩
 ·simp -implicitDefEqProofs only[SX,sevalprocAttr]
  subst hQ
  rw[z1]
 ·simp -implicitDefEqProofs only[SX,sevalprocAttr,z4,z5]
  subst hQ;rw[z6]
omit Aa in
theorem kG:zg [T]=some (i64 (Ae ss)):=by
 obtain⟨S',NX,DG,RW,rfl,_⟩:=hT.ex
 have hrp:=Et (a:=S') (b:=pf l) (c:=NX) (d:=DG) (e:=RW) (f:=i64 (Ae ss))
 have l5:=fun H=>(hrp H).2.2.2.1
 generalize ([S',pf l,NX,DG,RW,i64 (Ae ss)]:List PV)=R at *
 simp -implicitDefEqProofs only[zg,SX,sevalprocAttr,ak,kv,sB,l5]
omit hT Aa in
theorem lF {RW:PV} {es:List PV} (h:Th 3 RW es) (hl:es.length≤1000000):Dd [RW]=some RW:=by
 rcases h with⟨rfl,_⟩ | rfl
 ·simp -implicitDefEqProofs only[Dd,SX,sevalprocAttr,Pe,kv]
 ·have hap:Zb [.tok 3 0 false] false .uq 3 true 24 (.uq 0 false 3 []) (.pv (.lit 3 es))=some (.uq 0 false 3 es,[.tok 3 es.length false]):=by
   simp only[Zb,List.getElem?_cons_zero,nf,if_true,Option.bind_some,List.length_nil,Nat.zero_add,List.nil_append,Bool.false_eq_true,if_false]
   rw[if_pos ⟨trivial,trivial,trivial,by unfold xb;omega⟩]
   rfl
  simp -implicitDefEqProofs only[Dd,SP,WP,na,sevalprocAttr,Pe,kv,hap]
theorem DF:∃ RW,Yh [T]=some RW∧Th 3 RW ((Od ss).map Dn):=by
 obtain⟨S',NX,DG,RW,rfl,_,_,_,hRW⟩:=hT.ex
 have hrp:=Et (a:=S') (b:=pf l) (c:=NX) (d:=DG) (e:=RW) (f:=i64 (Ae ss))
 have l4:=fun H=>(hrp H).2.2.1
 generalize ([S',pf l,NX,DG,RW,i64 (Ae ss)]:List PV)=R at *
 have h32:=Aa.len
 have hc:=lF hRW (by rw[List.length_map,ql];omega)
 refine⟨RW,?_,hRW⟩
 simp -implicitDefEqProofs only[Yh,SX,sevalprocAttr,Rl,kv,sB,l4,hc]
end
end Go.AM.B1
namespace Go.AM.B1
open Go.AM Go.AM.So
theorem uo.take {B:PV} {bs:List Int} (h:uo B bs) {n:Nat} (hn:n≤bs.length):∃ B',(∀ H,sg H 1 (.pv B) none (some (n:Int))=some (.pv B'))∧uo B' (bs.take n)∧(AV.pv B').one=true:=by
 rcases h.is with⟨rfl,hb⟩ | rfl
 ·have:bs=[]:=by simpa using hb
  subst this
  have:n=0:=by simpa using hn
  subst this
  exact⟨.ma,fun H=>rfl,⟨.inl ⟨rfl,rfl⟩,by simp⟩,rfl⟩
 ·refine⟨.lit 1 ((bs.take n).map (PV.int .u8)),fun H=> ?_,⟨.inr rfl,fun b hb=>h.UH b (List.mem_of_mem_take hb)⟩,rfl⟩
  simp only[sg,Option.getD_some,Option.getD_none]
  rw[if_pos ⟨by omega,trivial,by omega,by omega,by simp;omega⟩]
  simp[List.map_take]
theorem Bd.form {v:PV} {l:List (Int×Int)} (h:Bd l) (hv:um v l):v=Yd l:=by
 rcases hv.is with⟨_,h2⟩ | h2
 ·exact absurd (by simpa using h2) h.1
 ·exact h2
end Go.AM.B1
