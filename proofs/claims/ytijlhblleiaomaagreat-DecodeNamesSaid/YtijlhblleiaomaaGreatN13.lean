/- What functions of the program compute. -/
import Derived.Test.YtijlhblleiaomaaGreatN12
import Derived.Test.YtijlhblleiaomaaGreatN3
import Derived.Test.YtijlhblleiaomaaGreatN7
import Derived.Test.YtijlhblleiaomaaGreatN8
import Derived.Test.YtijlhblleiaomaaGreatN11
import Derived.Test.YtijlhblleiaomaaGreatN4
set_option linter.unusedVariables false
set_option linter.unusedSimpArgs false
namespace Go.AM.B1
open Go.AM Go.AM.So
section
variable {call:Fa} {o0 o1 o4 o5:aa} {c0 c1 c3 c4 c5:AV}
 (hg:∀ nl es,Kc (Cr o0 o1 o4 o5 c0 c1 c3 c4 c5 nl es))
include hg
theorem sQ {E:Tr} {V:PV} {l:List (List je)} (hV:Ah 1 V (l.map nf)) (hl:l.length≤64) (hle:∀ e∈l,e.length≤256) (ta:∀ e∈l,Qj e)
 (h8:E.get 8= .ptr 2 0) (h101:E.get 101= .pv V) (h102:E.get 102= .pv (i64 l.length)) (h103:E.get 103= .pv (i64 0)):
 ke (fun r=>r.1.stop=true∧∃ E' nl,r=(.exit 2,⟨E',Cr o0 o1 o4 o5 c0 c1 c3 c4 c5 nl (l.map Fk)⟩)∧E'.get 8= .ptr 2 0∧(nl=true→l=[]))
  (ga call (.loop [8,101,102,103] eg) ⟨E,Cr o0 o1 o4 o5 c0 c1 c3 c4 c5 true []⟩):=by
 have hgl:∀ nl es,(Cr o0 o1 o4 o5 c0 c1 c3 c4 c5 nl es).length=6:=fun _ _=>rfl
 have hgd:∀ nl es,∀ o∈Cr o0 o1 o4 o5 c0 c1 c3 c4 c5 nl es,pa 6 o=some o:=fun nl es o ho=>hg nl es 6 (by rw[hgl];exact Nat.le_refl _) o ho
 have hcut:Fit 6 [8,101,102] E:= .cons h8 (Tp (by omega)) (.cons h101 Ha (.cons h102 Ha (.nil _ _)))
 refine Up (fun i t=>oe [8,101,102] E t.env∧t.env.get 103= .pv (i64 i)∧∃ nl,t.H=Cr o0 o1 o4 o5 c0 c1 c3 c4 c5 nl ((l.take i).map Fk)∧(nl=true→i=0)) l.length (by unfold wa;omega) ?_ ?_ ?_
 ·rw[hgl]
  exact Ug.all rfl (hgd _ _) (Fit.sub (.cons h103 Ha hcut) rfl) fun E' hE=>⟨oe.sub hE rfl,by rw[hE 103 (by simp),h103];rfl,true,rfl,fun _=>rfl⟩
 ·rintro i ⟨E1,H1⟩ hi ⟨k1,k2,nl,k3,k4⟩
  simp only at k1 k2 k3
  subst k3
  refine Wa (jP (call:=call) hg hV hl hle ta hi (by simp;omega) ((k1 8 (by simp)).trans h8) ((k1 101 (by simp)).trans h101) ((k1 102 (by simp)).trans h102) k2) ?_
  rintro r ⟨E2,rfl,k5,k6⟩
  rw[Nn,hgl]
  have hnx:(l.take (i+1)).map Fk=(l.take i).map Fk++[Fk l[i]]:=by rw[List.take_succ_eq_append_getElem hi,List.map_append];rfl
  exact Ug.front (hgl _ _).symm (hgd _ _) (Fit.sub (.cons k6 Ha (hcut.Wc (k1.trans k5))) rfl) fun E' hE=>⟨(k1.trans k5).trans (oe.sub hE rfl),by rw[hE 103 (by simp),k6],false,by rw[hnx],fun h=>by cases h⟩
 ·rintro⟨E1,H1⟩ ⟨k1,k2,nl,k3,k4⟩
  simp only at k1 k2 k3
  subst k3
  have g102:=(k1 102 (by simp)).trans h102
  have e1:decide ((l.length:Int) < (l.length:Int))=false:=mb (by omega)
  rw[List.take_length]
  generalize hQ:(fun r:Ex×St=>r.1.stop=true∧_)=Q
  simp -implicitDefEqProofs only[SX,sevalprocAttr,-List.reduceReplicate,eg,k2,g102,e1]
  subst hQ
  exact⟨rfl,_,nl,rfl,by rw[Tr.ba,if_neg (by decide)];exact (k1 8 (by simp)).trans h8,fun h=>List.eq_nil_of_length_eq_zero (k4 h)⟩
end
def yr (s:ec) (i:Nat):List Int:=[s.first,s.first+Ba s.parts - 1,(i:Int)]
def Fg (ss:List ec) (n:Nat):List (List Int):=(List.range n).map fun j=>yr (ss.getD j ⟨[],0⟩) j
theorem BI (ss:List ec) {n:Nat} (h:n < ss.length):Fg ss (n+1)=Fg ss n++[yr ss[n] n]:=by
 unfold Fg
 rw[List.range_succ,List.map_append,List.map_cons,List.map_nil,List.getD_eq_getElem?_getD,List.getElem?_eq_getElem h];rfl
theorem Dm (ss:List ec) (n:Nat):(Fg ss n).length=n:=by simp[Fg]
theorem yt {ss:List ec} {n:Nat} {r:List Int} (h:r∈Fg ss n):r.length=3:=by
 unfold Fg at h
 obtain⟨j,_,rfl⟩:=List.mem_map.1 h
 rfl
theorem Mt:∀ {D:List (List Int)},(∀ r∈D,r.length=3)→D.flatten.length=D.length * 3
 | [],_=>rfl
 |r::D,h=>by rw[List.flatten_cons,List.length_append,h r (by simp),Mt fun x hx=>h x (by simp[hx]),List.length_cons];omega
def Ng (ss:List ec):Nat:=ss.foldl (fun m s=>if s.parts.length > m then s.parts.length else m) 0
def Qt (o0 o1 o3:aa) (c0 c1 c2:AV) (nl:Bool) (ds:List PV) (D:List (List Int)) (fl:Nat) (nr:Bool) (m:Int):List aa:=
 [o0,o1,.box [c0,c1,c2,.uq 4 nl 1 ds,.own 5 D.length,.pv (i64 m)],o3,.tok 1 ds.length nl,.seq 3 true (ae D.flatten) fl nr]
section
variable {call:Fa} {o0 o1 o3:aa} {c0 c1 c2:AV}
theorem XO {E:Tr} {S:PV} {ss:List ec} {es:List PV} {i:Nat} {nl nr:Bool} {fl:Nat} {ds:List PV} {D:List (List Int)} {m:Nat} (hS:Ld S ss es) (ta:ue ss) (hi:i < ss.length) (hds:ds.length=i) (hD:D.length=i) (hDr:∀ r∈D,r.length=3) (hm:m≤8)
 (h4:E.get 4= .ptr 0 0) (h8:E.get 8= .ptr 2 0) (h46:E.get 46= .pv S) (h47:E.get 47= .pv (i64 ss.length)) (h48:E.get 48= .pv (i64 i)):
 ke (fun r=>∃ E' T,r=(.norm,⟨E',Qt o0 o1 o3 c0 c1 c2 false (ds++[Sg ss[i].parts]) (D++[yr ss[i] i]) fl false (if ss[i].parts.length > m then ss[i].parts.length else m:Nat)++T⟩)∧oe [4,8,46,47] E E'∧E'.get 48= .pv (i64 (i+1:Nat)))
  (ga call cg ⟨E,Qt o0 o1 o3 c0 c1 c2 nl ds D fl nr m⟩):=by
 obtain⟨P,ps,hsh,a1⟩:=hS.mg hi
 have hs:=ta.my _ (List.getElem_mem hi)
 have h32:=ta.len
 have hcn:=uy hsh hs
 have hdg:=AB hsh hs
 have hpo:=Ue hs.parts
 have hpr:=hs.prod.2
 have hlt:=hs.Jg
 have hl1:=hs.last
 have hf0:=hs.f0
 have hf1:=hs.f1
 have h88:=hs.hi
 have lP:=hsh.parts.Mc
 have hP1:=hsh.yw.1
 have hDl:=Mt hDr
 generalize ss[i]=s at *
 have e1:decide ((i:Int) < (ss.length:Int))=true:=Za (by omega)
 have t1:IntKind.i64.wrap ((i:Int)+1)=((i+1:Nat):Int):=Gh (by omega)
 have t2:IntKind.i64.wrap (s.first+Ba s.parts)=s.first+Ba s.parts:=Da (by omega)
 have t3:IntKind.i64.wrap (s.first+Ba s.parts - 1)=s.first+Ba s.parts - 1:=Da (by omega)
 have r2:∀ H (x y:PV),na H true 2 (.pv (.rp [x,y] 0))=some (.pv (.agg [x,y])):=fun H x y=>rfl
 obtain⟨b10,hb10⟩:∃ b,b=aa.box [.pv P,.pv (i64 s.first)]:=⟨_,rfl⟩
 have hH0:(Qt o0 o1 o3 c0 c1 c2 nl ds D fl nr m).length=6:=rfl
 have s1:Pa (Qt o0 o1 o3 c0 c1 c2 nl ds D fl nr m++[.box [.pv .qa,.pv (i64 0)]]) 2 (.ptr 6 0) (.pv (.agg [P,i64 s.first]))=some (Qt o0 o1 o3 c0 c1 c2 nl ds D fl nr m++[b10]):=by
  rw[hb10]
  exact Sk (.pv .qa) (.pv (i64 0)) (.pv P) (.pv (i64 s.first)) hP1 rfl (Qt o0 o1 o3 c0 c1 c2 nl ds D fl nr m) _ rfl
 have p1:∀ d,place (Qt o0 o1 o3 c0 c1 c2 nl ds D fl nr m++[b10]) d (.ptr 2 0)=some (.ptr 2 (0+d)):=fun d=>Ke rfl d 0
 have q1:∀ d,place (Qt o0 o1 o3 c0 c1 c2 nl ds D fl nr m++[b10]) d (.ptr 6 0)=some (.ptr 6 (0+d)):=fun d=>Ke (by rw[hb10];rfl) d 0
 have l1:na (Qt o0 o1 o3 c0 c1 c2 nl ds D fl nr m++[b10]) false 1 (.ptr 2 4)=some (.own 5 D.length):=rfl
 have l2:na (Qt o0 o1 o3 c0 c1 c2 nl ds D fl nr m++[b10]) false 1 (.ptr 6 1)=some (.pv (i64 s.first)):=by rw[hb10];rfl
 have l3:na (Qt o0 o1 o3 c0 c1 c2 nl ds D fl nr m++[b10]) true 2 (.ptr 6 0)=some (.pv (.agg [P,i64 s.first])):=by rw[hb10];rfl
 obtain⟨H2,hH2⟩:∃ H,H=[o0,o1,.box [c0,c1,c2,.uq 4 nl 1 ds,.own 5 D.length,.pv (i64 m)],o3,.tok 1 ds.length nl,.seq 3 true (ae (D++[yr s i]).flatten) fl false,b10]:=⟨_,rfl⟩
 have ap1:Hc (Qt o0 o1 o3 c0 c1 c2 nl ds D fl nr m++[b10]) true .own 3 true 24 (.own 5 D.length) (.pv (.lit 3 [.agg [i64 s.first,i64 (s.first+Ba s.parts - 1),i64 i]]))=some (.own 5 (D.length+1),H2):=by
  rw[hH2]
  have hc:ae D.flatten++[AV.pv (i64 s.first),.pv (i64 (s.first+Ba s.parts - 1)),.pv (i64 i)]=ae (D++[yr s i]).flatten:=by
   rw[List.flatten_append];simp[ae,yr]
  simp only[Hc,Qt,List.cons_append,List.nil_append,List.getElem?_cons_succ,List.getElem?_cons_zero,if_true,Zi,Oe,Option.map_some,Option.bind_some,flat,PV.cells,List.append_nil,List.map_cons,List.map_nil,List.length_cons,List.length_nil]
  rw[if_pos ⟨trivial,by rw[List.length_map];omega,by unfold Cb;omega,rfl⟩,hc]
  simp
 have p2:∀ d,place H2 d (.ptr 2 0)=some (.ptr 2 (0+d)):=fun d=>Ke (by rw[hH2];rfl) d 0
 obtain⟨H3,hH3⟩:∃ H,H=[o0,o1,.box [c0,c1,c2,.uq 4 nl 1 ds,.own 5 (D.length+1),.pv (i64 m)],o3,.tok 1 ds.length nl,.seq 3 true (ae (D++[yr s i]).flatten) fl false,b10]:=⟨_,rfl⟩
 have s2:Pa H2 1 (.ptr 2 4) (.own 5 (D.length+1))=some H3:=by rw[hH2,hH3];rfl
 have p3:∀ d,place H3 d (.ptr 2 0)=some (.ptr 2 (0+d)):=fun d=>Ke (by rw[hH3];rfl) d 0
 have q3:∀ d,place H3 d (.ptr 6 0)=some (.ptr 6 (0+d)):=fun d=>Ke (by rw[hH3,hb10];rfl) d 0
 have l4:na H3 false 1 (.ptr 2 5)=some (.pv (i64 m)):=by rw[hH3];rfl
 have l5:na H3 false 1 (.ptr 6 0)=some (.pv P):=by rw[hH3,hb10];rfl
 obtain⟨mm,hmm⟩:∃ x:Nat,x=if s.parts.length > m then s.parts.length else m:=⟨_,rfl⟩
 have hmx:(if (s.parts.length:Int) > (m:Int) then (s.parts.length:Int) else (m:Int))=(mm:Int):=by rw[hmm];split <;> split <;> omega
 obtain⟨H4,hH4⟩:∃ H,H=[o0,o1,.box [c0,c1,c2,.uq 4 nl 1 ds,.own 5 (D.length+1),.pv (i64 mm)],o3,.tok 1 ds.length nl,.seq 3 true (ae (D++[yr s i]).flatten) fl false,b10]:=⟨_,rfl⟩
 have s3:Pa H3 1 (.ptr 2 5) (.pv (.int .i64 mm))=some H4:=by rw[hH3,hH4];rfl
 have p4:∀ d,place H4 d (.ptr 2 0)=some (.ptr 2 (0+d)):=fun d=>Ke (by rw[hH4];rfl) d 0
 have l6:na H4 false 1 (.ptr 2 3)=some (.uq 4 nl 1 ds):=by rw[hH4];rfl
 have l7:na H4 true 2 (.ptr 6 0)=some (.pv (.agg [P,i64 s.first])):=by rw[hH4,hb10];rfl
 obtain⟨H5,hH5⟩:∃ H,H=[o0,o1,.box [c0,c1,c2,.uq 4 nl 1 ds,.own 5 (D.length+1),.pv (i64 mm)],o3,.tok 1 (ds.length+1) false,.seq 3 true (ae (D++[yr s i]).flatten) fl false,b10]:=⟨_,rfl⟩
 have ap2:Hc H4 false .uq 1 false 8 (.uq 4 nl 1 ds) (.pv (.lit 1 [Sg s.parts]))=some (.uq 4 false 1 (ds++[Sg s.parts]),H5):=by
  rw[hH5]
  rw[Nk (A:=H4) (id:=4) (n:=ds.length) (nl:=nl) (by rw[hH4];rfl) rfl (by unfold Cb;omega) (Sg s.parts)]
  rw[hH4];rfl
 have p5:∀ d,place H5 d (.ptr 2 0)=some (.ptr 2 (0+d)):=fun d=>Ke (by rw[hH5];rfl) d 0
 have s5:Pa H5 1 (.ptr 2 3) (.uq 4 false 1 (ds++[Sg s.parts]))=some (Qt o0 o1 o3 c0 c1 c2 false (ds++[Sg s.parts]) (D++[yr s i]) fl false mm++[b10]):=by
  rw[hH5]
  have e1:(ds++[Sg s.parts]).length=ds.length+1:=by simp
  have e2:(D++[yr s i]).length=D.length+1:=by simp
  unfold Qt
  rw[e1,e2];rfl
 rw[← hmm]
 have m1:nm (List.map AV.pv [PV.int .i64 0,.int .i64 0,.int .i64 0]) [(0,1,.pv (i64 s.first)),(1,1,.pv (i64 (s.first+Ba s.parts - 1))),(2,1,.pv (i64 i))]=some [.pv (i64 s.first),.pv (i64 (s.first+Ba s.parts - 1)),.pv (i64 i)]:=rfl
 have hdc:(AV.pv (Sg s.parts)).one=true:=rfl
 have hdp:(Sg s.parts).cells=[Sg s.parts]:=rfl
 have hfin:Qt o0 o1 o3 c0 c1 c2 false (ds++[Sg s.parts]) (D++[yr s i]) fl false mm++[b10]=Qt o0 o1 o3 c0 c1 c2 false (ds++[Sg s.parts]) (D++[yr s i]) fl false mm++[b10]:=rfl
 clear hH2 hH3 hH4 hH5 hb10
 generalize hG1:Qt o0 o1 o3 c0 c1 c2 nl ds D fl nr m++[b10]=G1 at *
 generalize hG0:Qt o0 o1 o3 c0 c1 c2 nl ds D fl nr m=G0 at *
 generalize Sg s.parts=dd at *
 generalize hQ:(fun r:Ex×St=>∃ E' T,r=_∧_)=Q
 simp -implicitDefEqProofs only[SP,WP,oa,sevalprocAttr,-List.reduceReplicate,cg,h8,h46,h47,h48,e1,a1,r2,hH0,s1,p1,q1,l1,l2,l3,hcn,t1,t2,t3,ap1,p2,s2,p3,q3,l4,l5,lP,hmx,Un,zd,s3,p4,l6,l7,hdg,hdc,hdp,ap2,p5,s5]
 subst hQ
 refine⟨_,[b10],rfl,?_,by rw[Tr.ba,if_pos rfl]⟩
 repeat refine oe.set ?_ rfl
 exact oe.refl _ _
theorem GI {ss:List ec} {i:Nat} (hi:i < ss.length):Ng (ss.take (i+1))=if ss[i].parts.length > Ng (ss.take i) then ss[i].parts.length else Ng (ss.take i):=by
 unfold Ng
 rw[List.take_succ_eq_append_getElem hi,List.foldl_append];rfl
theorem dP {ss:List ec} (h:∀ s∈ss,s.parts.length≤8):Ng ss≤8:=by
 have key:∀ (ss:List ec) (m:Nat),m≤8→(∀ s∈ss,s.parts.length≤8)→ss.foldl (fun m s=>if s.parts.length > m then s.parts.length else m) m≤8:=by
  intro ss
  induction ss with
  |nil=>intro m h _;exact h
  |cons s ss ih=>
   intro m hm h
   rw[List.foldl_cons]
   refine ih _ ?_ fun x hx=>h x (by simp[hx])
   have:=h s (by simp)
   split <;> omega
 exact key ss 0 (by omega) h
theorem nQ (hg:∀ nl ds D fl nr m,Kc (Qt o0 o1 o3 c0 c1 c2 nl ds D fl nr m)) {E:Tr} {S:PV} {ss:List ec} {es:List PV} (hS:Ld S ss es) (ta:ue ss)
 (h4:E.get 4= .ptr 0 0) (h8:E.get 8= .ptr 2 0) (h46:E.get 46= .pv S) (h47:E.get 47= .pv (i64 ss.length)) (h48:E.get 48= .pv (i64 0)):
 ke (fun r=>r.1.stop=true∧∃ E' nl nr,r=(.exit 0,⟨E',Qt o0 o1 o3 c0 c1 c2 nl (ss.map fun s=>Sg s.parts) (Fg ss ss.length) 0 nr (Ng ss)⟩)∧E'.get 4= .ptr 0 0∧E'.get 8= .ptr 2 0∧(nl=true→ss=[])∧(nr=true→ss=[]))
  (ga call (.loop [4,8,46,47,48] cg) ⟨E,Qt o0 o1 o3 c0 c1 c2 true [] [] 0 true 0⟩):=by
 have hgl:∀ nl ds D fl nr m,(Qt o0 o1 o3 c0 c1 c2 nl ds D fl nr m).length=6:=fun _ _ _ _ _ _=>rfl
 have hgd:∀ nl ds D fl nr m,∀ o∈Qt o0 o1 o3 c0 c1 c2 nl ds D fl nr m,pa 6 o=some o:=fun nl ds D fl nr m o ho=>hg nl ds D fl nr m 6 (by rw[hgl];exact Nat.le_refl _) o ho
 have hcut:Fit 6 [4,8,46,47] E:= .cons h4 (Tp (by omega)) (.cons h8 (Tp (by omega)) (.cons h46 Ha (.cons h47 Ha (.nil _ _))))
 have h32:=ta.len
 refine Up (fun i t=>oe [4,8,46,47] E t.env∧t.env.get 48= .pv (i64 i)∧∃ nl nr,t.H=Qt o0 o1 o3 c0 c1 c2 nl ((ss.take i).map fun s=>Sg s.parts) (Fg ss i) 0 nr (Ng (ss.take i))∧(nl=true→i=0)∧(nr=true→i=0)) ss.length (by unfold wa;omega) ?_ ?_ ?_
 ·rw[hgl]
  exact Ug.all rfl (hgd _ _ _ _ _ _) (Fit.sub (.cons h48 Ha hcut) rfl) fun E' hE=>⟨oe.sub hE rfl,by rw[hE 48 (by simp),h48];rfl,true,true,rfl,fun _=>rfl,fun _=>rfl⟩
 ·rintro i ⟨E1,H1⟩ hi ⟨k1,k2,nl,nr,k3,k4,k5⟩
  simp only at k1 k2 k3
  subst k3
  refine Wa (XO (call:=call) hS ta hi (by simp;omega) (Dm _ _) (fun r hr=>yt hr) (dP fun s hs=>(ta.my s (List.mem_of_mem_take hs)).hi) ((k1 4 (by simp)).trans h4) ((k1 8 (by simp)).trans h8) ((k1 46 (by simp)).trans h46) ((k1 47 (by simp)).trans h47) k2) ?_
  rintro r ⟨E2,T,rfl,k6,k7⟩
  rw[Nn,hgl,←BI ss hi,←GI hi]
  have hnx:(ss.take (i+1)).map (fun s=>Sg s.parts)=(ss.take i).map (fun s=>Sg s.parts)++[Sg ss[i].parts]:=by rw[List.take_succ_eq_append_getElem hi,List.map_append];rfl
  exact Ug.front (hgl _ _ _ _ _ _).symm (hgd _ _ _ _ _ _) (Fit.sub (.cons k7 Ha (hcut.Wc (k1.trans k6))) rfl) fun E' hE=>⟨(k1.trans k6).trans (oe.sub hE rfl),by rw[hE 48 (by simp),k7],false,false,by rw[hnx],fun h=>(by cases h),fun h=>(by cases h)⟩
 ·rintro⟨E1,H1⟩ ⟨k1,k2,nl,nr,k3,k4,k5⟩
  simp only at k1 k2 k3
  subst k3
  have g47:=(k1 47 (by simp)).trans h47
  have e1:decide ((ss.length:Int) < (ss.length:Int))=false:=mb (by omega)
  rw[List.take_length]
  generalize hQ:(fun r:Ex×St=>r.1.stop=true∧_)=Q
  simp -implicitDefEqProofs only[SX,sevalprocAttr,-List.reduceReplicate,cg,k2,g47,e1]
  subst hQ
  exact⟨rfl,_,nl,nr,rfl,by rw[Tr.ba,if_neg (by decide)];exact (k1 4 (by simp)).trans h4,by rw[Tr.ba,if_neg (by decide)];exact (k1 8 (by simp)).trans h8,fun h=>List.eq_nil_of_length_eq_zero (k4 h),fun h=>List.eq_nil_of_length_eq_zero (k5 h)⟩
end
end Go.AM.B1
namespace Go.AM.B1
open Go.AM Go.AM.So
end Go.AM.B1
namespace Go.AM.B1
open Go.AM
theorem RA (Ya:List Int):∀ (xs ys:List Nat) (r:List Int×List Int),Pc Ya (xs++ys) r=Pc Ya ys (Pc Ya xs r)
 | [],ys,r=>rfl
 |x::xs,ys,r=>by rw[List.cons_append,Pc,Pc,RA Ya xs]
theorem NB {a:Int}:∀ {l:List Int} {k i:Nat},bu a l k=some i→k≤i∧l[i - k]? =some a
 | [],_,_,h=>by cases h
 |b::l,k,i,h=>by
  simp only[bu] at h
  split at h
  ·next he=>injection h with h;subst h he;simp
  ·obtain⟨h1,h2⟩:=NB h
   refine⟨by omega,?_⟩
   have:i - k=(i - (k+1))+1:=by omega
   rw[this,List.getElem?_cons_succ];exact h2
structure tT (Ya O:List Int) (n:Nat) (r:List Int×List Int):Prop where
 len:r.2.length=Ya.length
 hi:∀ x,n≤x→r.2.getD x 0=Ya.getD x 0
 ext:∃ t,r.1=O++t∧∀ o∈t,0≤o∧∃ x,x < n∧Ya.getD x 0=o
 nodup:r.1.Nodup
 val:∀ x,x < n→(Ya.getD x 0 < 0→r.2.getD x 0=Ya.getD x 0)∧(0≤Ya.getD x 0→∃ k:Nat,r.2.getD x 0=(k:Int)∧r.1[k]? =some (Ya.getD x 0))
theorem Ch {l:List Int} {x y:Nat} {v:Int} (hx:x < l.length):(l.set x v).getD y 0=if y=x then v else l.getD y 0:=by
 rw[List.getD_eq_getElem?_getD,List.getD_eq_getElem?_getD]
 by_cases h:y=x
 ·subst h;rw[List.getElem?_set_self hx,if_pos rfl];rfl
 ·rw[List.getElem?_set_ne (Ne.symm h),if_neg h]
theorem tT.next {Ya O:List Int} {n:Nat} {r:List Int×List Int} (h:tT Ya O n r) (hn:n < Ya.length):
 tT Ya O (n+1) (bk n (Ya.getD n 0) r)∧(bk n (Ya.getD n 0) r).2.getD n 0≤r.1.length∧
 (((bk n (Ya.getD n 0) r).1.length:Int)=if (bk n (Ya.getD n 0) r).2.getD n 0=r.1.length then (r.1.length:Int)+1 else r.1.length)∧
 (∀ x,x < n→(bk n (Ya.getD n 0) r).2.getD x 0=r.2.getD x 0):=by
 obtain⟨t,ht,hts⟩:=h.ext
 have hl:n < r.2.length:=by rw[h.len];exact hn
 have hne:∀ x,x < n→x≠n:=fun x hx=>by omega
 unfold bk
 by_cases h0:Ya.getD n 0 < 0
 ·rw[if_pos h0]
  have hv:=h.hi n (Nat.le_refl _)
  refine⟨⟨h.len,fun x hx=>h.hi x (by omega),⟨t,ht,fun o ho=>⟨(hts o ho).1,by obtain⟨x,hx,e⟩:=(hts o ho).2;exact⟨x,by omega,e⟩⟩⟩,h.nodup,?_⟩,by rw[hv];omega,by rw[hv,if_neg (by omega)],fun x hx=>rfl⟩
  intro x hx
  rcases Nat.lt_or_ge x n with h1 | h1
  ·exact h.val x h1
  ·have:x=n:=by omega
   subst this;exact⟨fun _=>hv,fun h2=>by omega⟩
 ·rw[if_neg h0]
  cases hi:bu (Ya.getD n 0) r.1 0 with
  |some k=>
   have hk:=(NB hi).2
   rw[Nat.sub_zero] at hk
   have hkl:=(List.getElem?_eq_some_iff.1 hk).1
   simp only
   refine⟨⟨by rw[List.length_set,h.len],?_,⟨t,ht,fun o ho=>⟨(hts o ho).1,by obtain⟨x,hx,e⟩:=(hts o ho).2;exact⟨x,by omega,e⟩⟩⟩,h.nodup,?_⟩,?_,?_,?_⟩
   ·intro x hx;rw[Ch hl,if_neg (by omega)];exact h.hi x (by omega)
   ·intro x hx
    rcases Nat.lt_or_ge x n with h1 | h1
    ·rw[Ch hl,if_neg (by omega)];exact h.val x h1
    ·have:x=n:=by omega
     subst this
     rw[Ch hl,if_pos rfl]
     exact⟨fun h2=>absurd h2 h0,fun _=>⟨k,rfl,hk⟩⟩
   ·rw[Ch hl,if_pos rfl];omega
   ·rw[Ch hl,if_pos rfl,if_neg (by omega)]
   ·intro x hx;rw[Ch hl,if_neg (by omega)]
  |none=>
   have hnm:=sw hi
   simp only
   refine⟨⟨by rw[List.length_set,h.len],?_,⟨t++[Ya.getD n 0],by rw[ht,List.append_assoc],?_⟩,?_,?_⟩,?_,?_,?_⟩
   ·intro x hx;rw[Ch hl,if_neg (by omega)];exact h.hi x (by omega)
   ·intro o ho
    rcases List.mem_append.1 ho with h1 | h1
    ·exact⟨(hts o h1).1,by obtain⟨x,hx,e⟩:=(hts o h1).2;exact⟨x,by omega,e⟩⟩
    ·simp only[List.mem_singleton] at h1;subst h1;exact⟨by omega,n,by omega,rfl⟩
   ·rw[List.nodup_append]
    refine⟨h.nodup,by simp,fun a ha b hb=> ?_⟩
    simp only[List.mem_singleton] at hb;subst hb;intro e;subst e;exact hnm ha
   ·intro x hx
    rcases Nat.lt_or_ge x n with h1 | h1
    ·rw[Ch hl,if_neg (by omega)]
     refine⟨(h.val x h1).1,fun h2=> ?_⟩
     obtain⟨k,e1,e2⟩:=(h.val x h1).2 h2
     exact⟨k,e1,by rw[List.getElem?_append_left (List.getElem?_eq_some_iff.1 e2).1];exact e2⟩
    ·have:x=n:=by omega
     subst this
     rw[Ch hl,if_pos rfl]
     exact⟨fun h2=>absurd h2 h0,fun _=>⟨_,rfl,by simp⟩⟩
   ·rw[Ch hl,if_pos rfl];omega
   ·rw[Ch hl,if_pos rfl,if_pos rfl,List.length_append];simp
   ·intro x hx;rw[Ch hl,if_neg (by omega)]
theorem MN {Ya O:List Int} (hO:O.Nodup):∀ n:Nat,n≤Ya.length→tT Ya O n (Pc Ya (List.range n) (O,Ya))∧
 (∀ x,x < n→(Pc Ya (List.range n) (O,Ya)).2.getD x 0≤((Pc Ya (List.range x) (O,Ya)).1.length:Int)∧
  ((Pc Ya (List.range (x+1)) (O,Ya)).1.length:Int)=if (Pc Ya (List.range n) (O,Ya)).2.getD x 0=((Pc Ya (List.range x) (O,Ya)).1.length:Int) then ((Pc Ya (List.range x) (O,Ya)).1.length:Int)+1 else ((Pc Ya (List.range x) (O,Ya)).1.length:Int))
 |0,_=>⟨⟨rfl,fun x _=>rfl,⟨[],by simp[Pc]⟩,hO,by omega⟩,by omega⟩
 |n+1,hn=>by
  obtain⟨h1,h2⟩:=MN (Ya:=Ya) hO n (by omega)
  obtain⟨k1,k2,k3,k4⟩:=h1.next (by omega)
  have e:Pc Ya (List.range (n+1)) (O,Ya)=bk n (Ya.getD n 0) (Pc Ya (List.range n) (O,Ya)):=by rw[List.range_succ,RA];rfl
  refine⟨by rw[e];exact k1,fun x hx=> ?_⟩
  rcases Nat.lt_or_ge x n with h3 | h3
  ·rw[e,k4 x h3];exact h2 x h3
  ·have:x=n:=by omega
   subst this
   rw[e]
   exact⟨k2,k3⟩
structure iF (D:List Int) (O:List Int) (o:Int) (e:List je):Prop where
 ex:∃ row,e=Pe row∧∀ x,x < 256→((Ja D o.toNat).getD x 0 < 0→row.getD x 0=(Ja D o.toNat).getD x 0)∧
  (0≤(Ja D o.toNat).getD x 0→∃ k:Nat,row.getD x 0=(k:Int)∧O[k]? =some ((Ja D o.toNat).getD x 0))
theorem iF.mono {D O:List Int} {o:Int} {e:List je} (h:iF D O o e) (t:List Int):iF D (O++t) o e:=by
 obtain⟨row,h1,h2⟩:=h.ex
 refine⟨row,h1,fun x hx=>⟨(h2 x hx).1,fun h0=> ?_⟩⟩
 obtain⟨k,h3,h4⟩:=(h2 x hx).2 h0
 exact⟨k,h3,by rw[List.getElem?_append_left (List.getElem?_eq_some_iff.1 h4).1];exact h4⟩
def AD:Int→Int→List (List je)→Prop
 |_,_,[]=>True
 |m,i,e::l=>i < m∧iu m e∧AD (Ow m e) (i+1) l
def rD (m:Int) (l:List (List je)):Int:=l.foldl Ow m
theorem Yx:∀ {m i:Int} {l:List (List je)} {e:List je},AD m i l→i+l.length < rD m l→iu (rD m l) e→AD m i (l++[e])
 |m,i,[],e,_,h1,h2=>⟨by simpa[rD] using h1,h2,trivial⟩
 |m,i,a::l,e,h,h1,h2=>⟨h.1,h.2.1,Yx h.2.2 (by simp only[List.length_cons] at h1;simp only[rD,List.foldl_cons] at h1;simp only[rD];omega) h2⟩
theorem qK (m:Int) (l:List (List je)) (e:List je):rD m (l++[e])=Ow (rD m l) e:=by
 unfold rD;rw[List.foldl_append];rfl
structure an (D:List Int) (n:Nat) (J:Int→Prop) (O:List Int) (l:List (List je)):Prop where
 ord:ir n O
 first:O[0]? =some 0
 le:l.length≤O.length
 rows:∀ (k:Nat) o e,O[k]? =some o→l[k]? =some e→iF D O o e
 met:rD 1 l=O.length
 BT:AD 1 0 l
 all:∀ o∈O,J o
 PT:∀ e∈l,∀ x∈e,x.to < O.length
section
variable {D:List Int} {n:Nat} {J:Int→Prop} (hD:D.length=n * 256) (cD:∀ c∈D,c < n)
 (hJ:∀ o,J o→0≤o→o < n→∀ x,x < 256→0≤(Ja D o.toNat).getD x 0→J ((Ja D o.toNat).getD x 0))
include hD cD hJ
theorem an.next {O:List Int} {l:List (List je)} (h:an D n J O l) {o:Int} (ho:O[l.length]? =some o):
 an D n J (lg D o O).1 (l++[Pe (lg D o O).2]):=by
 have hoO:=List.mem_of_getElem? ho
 have hb:=h.ord.2 o hoO
 have hlt:=(List.getElem?_eq_some_iff.1 ho).1
 have hrl:(Ja D o.toNat).length=256:=pg hD (by omega)
 obtain⟨k1,k2⟩:=MN (Ya:=Ja D o.toNat) h.ord.1 256 (by omega)
 obtain⟨t,ht,hts⟩:=k1.ext
 unfold lg
 have hm:=SB (row:=(Pc (Ja D o.toNat) (List.range 256) (O,Ja D o.toNat)).2) (g:=fun x=>((Pc (Ja D o.toNat) (List.range x) (O,Ja D o.toNat)).1.length:Int)) (fun x=>by omega) 256 (fun x hx=>(k2 x hx).1) (fun x hx=>(k2 x hx).2)
 generalize hr:Pc (Ja D o.toNat) (List.range 256) (O,Ja D o.toNat)=r at *
 obtain⟨m1,m2,m3⟩:=hm
 have hg0:((Pc (Ja D o.toNat) (List.range 0) (O,Ja D o.toNat)).1.length:Int)=O.length:=rfl
 simp only[hg0] at m1 m2
 have e1:Md r.2 (List.range 256) []=Pe r.2:=rfl
 rw[e1] at m1 m2 m3
 have hval:iF D r.1 o (Pe r.2):=⟨r.2,rfl,fun x hx=>k1.val x hx⟩
 have hm':=h.met
 have hget:∀ x,x < 256→(Ja D o.toNat).getD x 0 < n:=by
  intro x hx
  rw[List.getD_eq_getElem?_getD,List.getElem?_eq_getElem (by omega)]
  have:=List.getElem_mem (l:=Ja D o.toNat) (n:=x) (by omega)
  exact cD _ (by unfold Ja at this;exact List.mem_of_mem_drop (List.mem_of_mem_take this))
 refine⟨⟨k1.nodup,?_⟩,?_,?_,?_,?_,?_,?_,?_⟩
 ·intro o' ho'
  rw[ht] at ho'
  rcases List.mem_append.1 ho' with h1 | h1
  ·exact h.ord.2 o' h1
  ·obtain⟨h2,x,hx,rfl⟩:=hts o' h1;exact⟨h2,hget x hx⟩
 ·rw[ht,List.getElem?_append_left (by omega)];exact h.first
 ·rw[ht];simp;omega
 ·intro k o' e h1 h2
  rcases Nat.lt_or_ge k l.length with h3 | h3
  ·rw[List.getElem?_append_left h3] at h2
   rw[ht,List.getElem?_append_left (by omega)] at h1
   rw[ht];exact (h.rows k o' e h1 h2).mono t
  ·have h4:=(List.getElem?_eq_some_iff.1 h2).1
   have:k=l.length:=by simp at h4;omega
   subst this
   rw[List.getElem?_append_right (Nat.le_refl _)] at h2
   simp at h2;subst h2
   rw[ht,List.getElem?_append_left (by omega),ho] at h1
   injection h1 with h1;subst h1;exact hval
 ·rw[qK,hm',m1]
 ·exact Yx h.BT (by rw[hm'];omega) (by rw[hm'];exact m2)
 ·intro o' ho'
  rw[ht] at ho'
  rcases List.mem_append.1 ho' with h1 | h1
  ·exact h.all o' h1
  ·obtain⟨h2,x,hx,rfl⟩:=hts o' h1;exact hJ o (h.all o hoO) hb.1 hb.2 x hx h2
 ·intro e he x hx
  rcases List.mem_append.1 he with h1 | h1
  ·have:=h.PT e h1 x hx;rw[ht,List.length_append];omega
  ·simp only[List.mem_singleton] at h1;subst h1;exact m3 x hx
theorem an.go:∀ (f:Nat) (O:List Int) (l:List (List je)),an D n J O l→n≤l.length+f→an D n J (fh D f (O,l)).1 (fh D f (O,l)).2∧(fh D f (O,l)).1.length=(fh D f (O,l)).2.length
 |0,O,l,h,hf=>⟨h,by have:=h.ord.len;have:=h.le;show O.length=l.length;omega⟩
 |f+1,O,l,h,hf=>by
  cases ho:O[l.length]? with
  |none=>
   rw[Qq (r:=(O,l)) ho]
   have:=List.getElem?_eq_none_iff.1 ho
   exact⟨h,by have:=h.le;show O.length=l.length;omega⟩
  |some o=>
   rw[Js (r:=(O,l)) ho]
   exact an.go f _ _ (h.next hD cD hJ ho) (by simp;omega)
theorem pR (hn:n≤64) (h0:0 < n) (hJ0:J 0):∃ O,an D n J O (Vm D)∧O.length=(Vm D).length:=by
 have h:an D n J [0] []:=⟨⟨by simp,by simp;omega⟩,rfl,by simp,by simp,rfl,trivial,by simpa using hJ0,by simp⟩
 have:=an.go hD cD hJ 64 [0] [] h (by simp;omega)
 exact⟨_,this.1,this.2⟩
end
end Go.AM.B1
namespace Go.AM.B1
open Go.AM Go.AM.So
structure aR (ss:List ec) (sets:List Al) (C:List (List Int)) (O:List Int) (l:List (List je)):Prop where
 ok:ue ss
 pre:ik ss
 W:gj ss sets C
 hl:C.length=sets.length
 told:an (bg C.length C.flatten).C C.length (fun o=>∃ j,j < C.length∧o=co C j) O l
 len:O.length=l.length
 pos:0 < C.length
 le:C.length≤64
theorem AE (C:List (List Int)):co C 0=0:=by unfold co;rw[if_pos rfl]
section
variable {ss:List ec} {sets:List Al} {C:List (List Int)} (W:gj ss sets C) (hl:C.length=sets.length)
include W hl
theorem eK {j x:Nat} (hj:j < C.length) (hx:x < 256):ax C j x=if 0≤aj C j x then co C (aj C j x).toNat else aj C j x:=by
 unfold ax
 split
 ·next h=>
  have:=W.Xz hl hj hx h
  unfold co;rw[if_neg (by omega)]
 ·rfl
end
theorem lK {ss:List ec} {l:List (List je)} (ta:ue ss) (hpre:ik ss) (h:Ck ss=some l):∃ sets C O,aR ss sets C O l:=by
 unfold Ck at h
 rw[Option.map_eq_some_iff] at h
 obtain⟨⟨sets,C⟩,hw,rfl⟩:=h
 obtain⟨W,hl⟩:=rM ta.len (fun s hs=>(ta.my s hs).lo) hw
 have W:gj ss sets C:=W
 have hl:C.length=sets.length:=hl
 have hm:=W.xD hl
 have h0:0 < C.length:=by rw[hl];exact (List.getElem?_eq_some_iff.1 W.first).1
 have h64:C.length≤64:=by rw[hl];exact W.ok.1
 have hrow:∀ j x,j < C.length→x < 256→(Ja (bg C.length C.flatten).C (co C j).toNat).getD x 0=ax C j x:=fun j x hj hx=>HN W hl hj hx
 obtain⟨O,h1,h2⟩:=pR (n:=C.length) (J:=fun o=>∃ j,j < C.length∧o=co C j) (D:=(bg C.length C.flatten).C) hm.hC (by
  intro c hc
  obtain⟨p,hp,rfl⟩:=List.getElem_of_mem hc
  have hpl:p < C.length * 256:=by rw[← hm.hC];exact hp
  have e1:(bg C.length C.flatten).C[p]=(Ja (bg C.length C.flatten).C (p / 256)).getD (p % 256) 0:=by
   rw[List.getD_eq_getElem?_getD,fp (Nat.mod_lt _ (by omega))]
   have:p / 256 * 256+p % 256=p:=by omega
   rw[this,List.getElem?_eq_getElem hp];rfl
  rw[e1,W.vM hl (by omega) (Nat.mod_lt _ (by omega))]
  have hb:=W.bound hl (k:=p / 256) (x:=p % 256) (by omega) (Nat.mod_lt _ (by omega))
  unfold ax
  split
  ·exact (hm.Pr (j:=(aj C (p / 256) (p % 256)).toNat) (by omega)).2.1
  ·exact hb.2) (by
  rintro o ⟨j,hj,rfl⟩ _ _ x hx h3
  rw[hrow j x hj hx,eK W hl hj hx] at h3 ⊢
  have hb:=W.bound hl hj hx
  split at h3
  ·next h4=>rw[if_pos h4];exact⟨_,by omega,rfl⟩
  ·omega) h64 h0 ⟨0,h0,(AE C).symm⟩
 exact⟨sets,C,O,ta,hpre,W,hl,h1,h2,h0,h64⟩
section
variable {ss:List ec} {sets:List Al} {C:List (List Int)} {O:List Int} {l:List (List je)}
theorem aR.first (h:aR ss sets C O l):O[0]? =some (co C 0):=by rw[AE];exact h.told.first
theorem aR.row (h:aR ss sets C O l) {k j:Nat} (hk:O[k]? =some (co C j)) (hj:j < C.length):∃ row,l[k]? =some (Pe row)∧
 ∀ x,x < 256→(aj C j x < 0→row.getD x 0=aj C j x)∧(0≤aj C j x→∃ k':Nat,row.getD x 0=(k':Int)∧0 < k'∧O[k']? =some (co C (aj C j x).toNat)):=by
 have hkl:=(List.getElem?_eq_some_iff.1 hk).1
 have hle:=h.len
 have he:l[k]? =some l[k]:=List.getElem?_eq_getElem (by omega)
 obtain⟨row,h1,h2⟩:=(h.told.rows k _ _ hk he).ex
 refine⟨row,by rw[he,h1],fun x hx=> ?_⟩
 have h3:=h2 x hx
 rw[HN h.W h.hl hj hx,eK h.W h.hl hj hx] at h3
 constructor
 ·intro h4
  rw[if_neg (by omega)] at h3
  exact h3.1 h4
 ·intro h4
  rw[if_pos h4] at h3
  have hd:=h.W.Xz h.hl hj hx h4
  have hb:=h.W.bound h.hl hj hx
  have hc:0≤co C (aj C j x).toNat:=by
   unfold co;split
   ·omega
   ·exact ((h.W.xD h.hl).Pr (by omega)).1
  obtain⟨k',e1,e2⟩:=h3.2 hc
  refine⟨k',e1,?_,e2⟩
  rcases Nat.eq_zero_or_pos k' with rfl | h5
  ·rw[h.first,AE] at e2
   injection e2 with e2
   unfold co at e2
   rw[if_neg (by omega)] at e2
   exact absurd e2.symm (rQ h.ok h.pre h.W h.hl (by omega) (by omega))
  ·exact h5
end
end Go.AM.B1
namespace Go.AM.B1
open Go.AM Go.AM.So
section
variable {ss:List ec} {sets:List Al} {C:List (List Int)} {O:List Int} {l:List (List je)} (h:aR ss sets C O l)
include h
theorem aR.step {k j:Nat} (hk:O[k]? =some (co C j)) (hj:j < C.length) {x:Nat} (hx:x < 256):
 (aj C j x= -2∧de l (k:Int) (x:Int)=(0,false))∨(aj C j x= -1∧de l (k:Int) (x:Int)=(-1,true))∨
 (0≤aj C j x∧aj C j x < C.length∧∃ k':Nat,de l (k:Int) (x:Int)=((k':Int),true)∧0 < k'∧O[k']? =some (co C (aj C j x).toNat)):=by
 obtain⟨row,h1,h2⟩:=h.row hk hj
 have h3:=(Pw row).step x hx
 obtain⟨h4,h5⟩:=h2 x hx
 have hb:=h.W.bound h.hl hj hx
 have hs:de l (k:Int) (x:Int)=match Qe (x:Int) (Pe row) with
  |some t=>(t,true)
  |none=>(0,false):=by
  unfold de
  rw[if_neg (by omega),Int.toNat_natCast,h1] <;> rfl
 rw[h3] at hs
 by_cases c0:0≤aj C j x
 ·obtain⟨k',e1,e2,e3⟩:=h5 c0
  rw[e1,if_neg (by omega)] at hs
  exact .inr (.inr ⟨c0,hb.2,k',hs,e2,e3⟩)
 ·have h6:=h4 (by omega)
  rw[h6] at hs
  by_cases c1:aj C j x= -2
  ·rw[if_pos c1] at hs;exact .inl ⟨c1,hs⟩
  ·have c2:aj C j x= -1:=by omega
   rw[if_neg c1,c2] at hs;exact .inr (.inl ⟨c2,hs⟩)
theorem aR.match:∀ (bs:List Nat) (i k j:Nat),Bytes bs→O[k]? =some (co C j)→j < C.length→
 ∃ m:Nat,m≤bs.length∧((im l i (k:Int) (bs.map fun (n:Nat)=>(n:Int))=(((i+m:Nat):Int),1)∧0 < m∧runT C j (bs.take m)= -1)∨
  (im l i (k:Int) (bs.map fun (n:Nat)=>(n:Int))=(((i+m:Nat):Int),2)∧m=bs.length∧0≤runT C j bs)∨
  (im l i (k:Int) (bs.map fun (n:Nat)=>(n:Int))=(((i+m:Nat):Int),3)∧m < bs.length∧0≤runT C j (bs.take m)∧runT C j (bs.take (m+1))= -2))
 | [],i,k,j,_,hk,hj=>⟨0,by simp,.inr (.inl ⟨rfl,rfl,Int.natCast_nonneg j⟩)⟩
 |x::bs,i,k,j,hb,hk,hj=>by
  have hx:x < 256:=hb x (by simp)
  have hbs:Bytes bs:=fun y hy=>hb y (by simp[hy])
  have hj0:¬((j:Int) < 0):=by omega
  rw[List.map_cons,im]
  rcases h.step hk hj hx with⟨h1,h2⟩ | ⟨h1,h2⟩ | ⟨h1,h1',k',h2,h3,h4⟩
  ·rw[h2]
   refine⟨0,by simp,.inr (.inr ⟨rfl,by simp,Int.natCast_nonneg j,?_⟩)⟩
   show runT C j [x]= -2
   rw[runT,if_neg hj0,Int.toNat_natCast,h1];rfl
  ·rw[h2]
   refine⟨1,by simp,.inl ⟨rfl,by omega,?_⟩⟩
   show runT C j [x]= -1
   rw[runT,if_neg hj0,Int.toNat_natCast,h1];rfl
  ·rw[h2]
   simp only[Bool.true_eq_false,if_false]
   rw[if_neg (by omega)]
   obtain⟨m,hm,hc⟩:=aR.match bs (i+1) k' (aj C j x).toNat hbs h4 (by omega)
   have hr:∀ w,runT C j (x::w)=runT C ((aj C j x).toNat:Nat) w:=by
    intro w
    rw[runT,if_neg hj0,Int.toNat_natCast,Int.toNat_of_nonneg h1]
   have he:i+1+m=i+(m+1):=by omega
   rw[he] at hc
   refine⟨m+1,by simp;omega,?_⟩
   rcases hc with⟨c1,c2,c3⟩ | ⟨c1,c2,c3⟩ | ⟨c1,c2,c3,c4⟩
   ·exact .inl ⟨c1,by omega,by rw[List.take_succ_cons,hr];exact c3⟩
   ·exact .inr (.inl ⟨c1,by simp[c2],by rw[hr];exact c3⟩)
   ·exact .inr (.inr ⟨c1,by simp;omega,by rw[List.take_succ_cons,hr];exact c3,by rw[List.take_succ_cons,hr];exact c4⟩)
end
theorem FM {ss:List ec} {l:List (List je)} (ta:ue ss) (hpre:ik ss) (ha:Ck ss=some l) (bs:List Nat) (hb:Bytes bs):
 ∃ m:Nat,m≤bs.length∧((im l 0 0 (bs.map fun (n:Nat)=>(n:Int))=((m:Int),1)∧∃ s∈ss,Full s (bs.take m))∨
  (im l 0 0 (bs.map fun (n:Nat)=>(n:Int))=((m:Int),2)∧m=bs.length∧(bs=[]∨∃ s∈ss,Kq s bs)∧∀ s∈ss,¬Full s bs)∨
  (im l 0 0 (bs.map fun (n:Nat)=>(n:Int))=((m:Int),3)∧m < bs.length∧(bs.take m=[]∨∃ s∈ss,Kq s (bs.take m))∧(∀ s∈ss,¬Full s (bs.take m))∧∀ s∈ss,¬Kq s (bs.take (m+1)))):=by
 obtain⟨sets,C,O,h⟩:=lK ta hpre ha
 obtain⟨m,hm,hc⟩:=h.match bs 0 0 0 hb h.first h.pos
 have hbt:∀ m,Bytes (bs.take m):=fun m x hx=>hb x (List.mem_of_mem_take hx)
 have hsem:∀ w,Bytes w→yR ss sets w (runT C 0 w):=fun w hw=>Wv ta hpre h.W h.hl _ w rfl hw
 rw[Nat.zero_add] at hc
 refine⟨m,hm,?_⟩
 rcases hc with⟨c1,c2,c3⟩ | ⟨c1,c2,c3⟩ | ⟨c1,c2,c3,c4⟩
 ·refine .inl ⟨c1,?_⟩
  rcases hsem _ (hbt m) with⟨_,q⟩ | ⟨q,_⟩ | ⟨q,_⟩
  ·exact q
  ·have:runT C ((0:Nat):Int) (bs.take m)= -1:=c3
   rw[show ((0:Nat):Int)=0 from rfl] at this;omega
  ·have:runT C ((0:Nat):Int) (bs.take m)= -1:=c3
   rw[show ((0:Nat):Int)=0 from rfl] at this;omega
 ·refine .inr (.inl ⟨c1,c2,?_⟩)
  rw[show ((0:Nat):Int)=0 from rfl] at c3
  rcases hsem _ hb with⟨q,_⟩ | ⟨_,_,q1,q2⟩ | ⟨q,_⟩
  ·omega
  ·refine⟨?_,q2⟩
   rcases q1 with q1 | ⟨s,h1,h2,_⟩
   ·exact .inl q1
   ·exact .inr ⟨s,h1,h2⟩
  ·omega
 ·rw[show ((0:Nat):Int)=0 from rfl] at c3 c4
  refine .inr (.inr ⟨c1,c2,?_⟩)
  have h4:∀ s∈ss,¬Kq s (bs.take (m+1)):=by
   rcases hsem _ (hbt (m+1)) with⟨q,_⟩ | ⟨q,_⟩ | ⟨_,_,q⟩
   ·omega
   ·omega
   ·exact q
  rcases hsem _ (hbt m) with⟨q,_⟩ | ⟨_,_,q1,q2⟩ | ⟨q,_⟩
  ·omega
  ·refine⟨?_,q2,h4⟩
   rcases q1 with q1 | ⟨s,h1,h2,_⟩
   ·exact .inl q1
   ·exact .inr ⟨s,h1,h2⟩
  ·omega
end Go.AM.B1
namespace Go.AM.B1
open Go.AM Go.AM.So
theorem CM {row:List Int} {e:je} (he:e∈Pe row):0≤e.lo∧e.lo≤e.hi∧e.hi < 256∧e.to≠ -2∧e.to=row.getD e.lo.toNat 0:=by
 have h:=Pw row
 obtain⟨h1,h2,h3,h4⟩:=h.iw e he
 have hs:=h.step e.lo.toNat (by omega)
 rw[Int.toNat_of_nonneg h1,dA h.ord e he (Int.le_refl _) h2] at hs
 refine⟨h1,h2,h3,h4,?_⟩
 split at hs
 ·cases hs
 ·injection hs
theorem qF {ss:List ec} {l:List (List je)} (ta:ue ss) (hpre:ik ss) (h:Ck ss=some l):∀ e∈l,Qj e:=by
 obtain⟨sets,C,O,L⟩:=lK ta hpre h
 intro e he
 obtain⟨k,hk,rfl⟩:=List.getElem_of_mem he
 have hkO:k < O.length:=by rw[L.len];exact hk
 obtain⟨j,hj,ho⟩:=L.told.all O[k] (List.getElem_mem hkO)
 obtain⟨row,h1,h2⟩:=L.row (k:=k) (j:=j) (by rw[List.getElem?_eq_getElem hkO,ho]) hj
 rw[List.getElem?_eq_getElem hk] at h1
 injection h1 with h1
 have htos:=L.told.PT _ (List.getElem_mem hk)
 have h64:=(aC h).1
 have hlen:=L.len
 rw[h1] at htos ⊢
 refine⟨fun x hx=> ?_,(Pw row).ord⟩
 obtain⟨e1,e2,e3,e4,e5⟩:=CM hx
 have:=htos x hx
 refine⟨e1,e2,e3,?_,by omega⟩
 obtain⟨f1,f2⟩:=h2 x.lo.toNat (by omega)
 by_cases hc:aj C j x.lo.toNat < 0
 ·have hb:=L.W.bound L.hl hj (x:=x.lo.toNat) (by omega)
  rw[f1 hc] at e5
  omega
 ·obtain⟨k',g1,_⟩:=f2 (by omega)
  rw[g1] at e5
  omega
def lE (r:List Int):PV:= .agg (r.map i64)
theorem Pz {sz:Nat}:∀ {D:List (List PV)},(∀ r∈D,r.length=sz)→chunk sz true D.length D.flatten=D.map .agg
 | [],_=>rfl
 |r::D,h=>by
  have hr:=h r (by simp)
  rw[List.length_cons,chunk,if_pos rfl,List.flatten_cons,List.take_left' hr,List.drop_left' hr,Pz fun x hx=>h x (by simp[hx])];rfl
theorem nv:∀ {D:List (List Int)},(∀ r∈D,r.length=3)→Df 3 D.length D.flatten=D
 | [],_=>rfl
 |r::D,h=>by
  have hr:=h r (by simp)
  rw[List.length_cons,Df,List.flatten_cons,List.take_left' hr,List.drop_left' hr,nv fun x hx=>h x (by simp[hx])]
def ah (ss:List ec):List (List Int):=(Kl 3 0 (Fg ss ss.length).toArray).toList
theorem gn (ss:List ec):(ah ss).Perm (Fg ss ss.length):=(Vu 3 0 (Fg ss ss.length).toArray).2.1
theorem Xw {ss:List ec} {r:List Int} (h:r∈ah ss):r.length=3:=yt ((gn ss).mem_iff.1 h)
theorem sC (ss:List ec):(ah ss).length=ss.length:=by rw[(gn ss).length_eq,Dm]
structure er (T:PV) (ss:List ec) (l:List (List je)):Prop where
 ex:∃ S' NX DG RW,T= .rp [S',jm l,NX,DG,RW,i64 (Ng ss)] 0∧Ah 2 S' (ss.map Ed)∧Ah 256 NX (l.map Fk)∧Ah 1 DG (ss.map fun s=>Sg s.parts)∧Ah 3 RW ((ah ss).map lE)
section
variable {S:PV} {ss:List ec} {es:List PV} (hS:Ld S ss es)
include hS
end
end Go.AM.B1
namespace Go.AM.B1
open Go.AM Go.AM.So
theorem JA (l:List Int) (n:Nat):(ae l).all (AV.Wc n deep)=true:=by
 rw[List.all_eq_true];intro x hx
 obtain⟨y,_,rfl⟩:=List.mem_map.1 hx
 rfl
theorem uN {V S':PV} {y:Bool} {a b:Int} (nl:Bool) (ds:List PV) (D:List (List Int)) (fl:Nat) (nr:Bool) (m:Int):
 Kc (Qt (.box [.pv V]) (.box [.pv (.bool y),.pv (i64 a),.pv (i64 b)]) (.tok 256 0 true) (.pv S') (.pv V) (.uq 3 true 256 []) nl ds D fl nr m):=by
 intro n hn o ho
 have hn:6≤n:=hn
 simp only[Qt,List.mem_cons,List.not_mem_nil,or_false] at ho
 rcases ho with rfl | rfl | rfl | rfl | rfl | rfl
 ·exact Zm n [V]
 ·exact Zm n [.bool y,i64 a,i64 b]
 ·simp only[pa,Va,Ha,tA (show 3 < n by omega),tA (show 4 < n by omega),RJ (show 5 < n by omega),Option.bind_some,Option.map_some]
 ·rfl
 ·rfl
 ·simp only[pa,JA,if_true]
theorem YM {V S':PV} {y:Bool} {a b m:Int} {nl:Bool} {ds:List PV} {D:List (List Int)} {fl k:Nat} {nr:Bool} (nx:Bool) (es:List PV):
 Kc (Cr (.box [.pv V]) (.box [.pv (.bool y),.pv (i64 a),.pv (i64 b)]) (.tok 1 k nl) (.seq 3 true (ae D.flatten) fl nr) (.pv S') (.pv V) (.uq 4 nl 1 ds) (.own 5 k) (.pv (i64 m)) nx es):=by
 intro n hn o ho
 have hn:6≤n:=hn
 simp only[Cr,List.mem_cons,List.not_mem_nil,or_false] at ho
 rcases ho with rfl | rfl | rfl | rfl | rfl | rfl
 ·exact Zm n [V]
 ·exact Zm n [.bool y,i64 a,i64 b]
 ·simp only[pa,Va,Ha,tA (show 3 < n by omega),tA (show 4 < n by omega),RJ (show 5 < n by omega),Option.bind_some,Option.map_some]
 ·rfl
 ·rfl
 ·simp only[pa,JA,if_true]
theorem bN {V S':PV} {o0 o1:aa} {m:Int} {nl nr nx:Bool} {ds es:List PV} {D:List (List Int)} {fl k:Nat} (hk:D.length=k) (hD:∀ r∈D,r.length=3) (h1:nl=true→ds=[]) (h2:nr=true→D=[]) (h3:nx=true→es=[]):
 ∃ NX DG RW,Ab (Cr o0 o1 (.tok 1 k nl) (.seq 3 true (ae D.flatten) fl nr) (.pv S') (.pv V) (.uq 4 nl 1 ds) (.own 5 k) (.pv (i64 m)) nx es) 5 (.ptr 2 0)=some (.rp [S',V,NX,DG,RW,i64 m] 0)∧
  Ah 256 NX es∧Ah 1 DG ds∧Ah 3 RW (D.map lE):=by
 refine⟨if nx then .qa else .lit 256 es,if nl then .qa else .lit 1 ds,if nr then .qa else .lit 3 (D.map lE),?_,?_,?_,?_⟩
 ·have hc:k * 3=(ae D.flatten).length∧(true||(3:Nat)==1)=true:=⟨by rw[List.length_map,Mt hD,hk],rfl⟩
  have hm:Va (Ab (Cr o0 o1 (.tok 1 k nl) (.seq 3 true (ae D.flatten) fl nr) (.pv S') (.pv V) (.uq 4 nl 1 ds) (.own 5 k) (.pv (i64 m)) nx es) 3) (ae D.flatten)=some (D.flatten.map i64):=by
   generalize Cr o0 o1 (.tok 1 k nl) (.seq 3 true (ae D.flatten) fl nr) (.pv S') (.pv V) (.uq 4 nl 1 ds) (.own 5 k) (.pv (i64 m)) nx es=H
   generalize D.flatten=F
   induction F with
   |nil=>rfl
   |cons x F ih=>
    show Va (Ab H 3) (.pv (i64 x)::ae F)=_
    rw[Va,ih];rfl
  have hch:chunk 3 true k (D.flatten.map i64)=D.map lE:=by
   have:=Pz (sz:=3) (D:=D.map fun r=>r.map i64) (by
    intro r hr
    obtain⟨q,hq,rfl⟩:=List.mem_map.1 hr
    rw[List.length_map,hD q hq])
   rw[List.length_map,List.map_map,←List.map_flatten,hk] at this
   exact this
  have h5:(Cr o0 o1 (.tok 1 k nl) (.seq 3 true (ae D.flatten) fl nr) (.pv S') (.pv V) (.uq 4 nl 1 ds) (.own 5 k) (.pv (i64 m)) nx es)[5]? =some (.seq 3 true (ae D.flatten) fl nr):=rfl
  have hb:(Cr o0 o1 (.tok 1 k nl) (.seq 3 true (ae D.flatten) fl nr) (.pv S') (.pv V) (.uq 4 nl 1 ds) (.own 5 k) (.pv (i64 m)) nx es)[2]? =some (.box [.pv S',.pv V,.uq 3 nx 256 es,.uq 4 nl 1 ds,.own 5 k,.pv (i64 m)]):=rfl
  have ho:Ab (Cr o0 o1 (.tok 1 k nl) (.seq 3 true (ae D.flatten) fl nr) (.pv S') (.pv V) (.uq 4 nl 1 ds) (.own 5 k) (.pv (i64 m)) nx es) 4 (.own 5 k)=some (if nr then .qa else .lit 3 (D.map lE)):=by
   simp only[Ab,h5,if_pos hc,hm,Option.map_some,hch]
   cases nr <;> rfl
  generalize Cr o0 o1 (.tok 1 k nl) (.seq 3 true (ae D.flatten) fl nr) (.pv S') (.pv V) (.uq 4 nl 1 ds) (.own 5 k) (.pv (i64 m)) nx es=H at *
  show (match H[2]? with | some (.box cells)=>(Va (Ab H 4) cells).map fun ps=>PV.rp ps 0 | _=>none)=_
  rw[hb]
  have hv:∀ p:PV,Ab H 4 (.pv p)=some p:=fun p=>rfl
  have hu:∀ id nl sz es,Ab H 4 (.uq id nl sz es)=some (if nl then .qa else .lit sz es):=fun _ _ _ _=>rfl
  simp only[Va,hv,hu,ho,Option.bind_some,Option.map_some]
 ·cases nx with
  |false=>exact .inr rfl
  |true=>exact .inl ⟨rfl,h3 rfl⟩
 ·cases nl with
  |false=>exact .inr rfl
  |true=>exact .inl ⟨rfl,h1 rfl⟩
 ·cases nr with
  |false=>exact .inr rfl
  |true=>exact .inl ⟨rfl,by rw[h2 rfl];rfl⟩
theorem jN {ss:List ec} (h32:ss.length≤32) {H:List aa} {fl:Nat} {nr:Bool} (hH:H[5]? =some (.seq 3 true (ae (Fg ss ss.length).flatten) fl nr)):
 Ef Hn (fun _=>none) 8 34 [.own 5 ss.length,.mi 36 []] H=some (.pv (.bc []),H.set 5 (.seq 3 true (ae (ah ss).flatten) (ss.length * 3) nr)):=by
 have e34:∀ (d:Nat) args H,Ef Hn (fun _=>none) (d+1) 34 args H=Iv 3 0 36 args H:=fun d args H=>rfl
 rw[e34 7]
 have hl:(ae (Fg ss ss.length).flatten).length=ss.length * 3:=by rw[List.length_map,Mt fun r hr=>yt hr,Dm]
 simp only[Iv,hH]
 rw[if_pos ⟨trivial,trivial,hl.symm,by omega⟩,iq,Option.map_some,hl]
 have:=nv (D:=Fg ss ss.length) fun r hr=>yt hr
 rw[Dm] at this
 rw[this];rfl
theorem uI {S:PV} {ss:List ec} {es:List PV} (hS:Ld S ss es) (ta:ue ss) (hpre:ik ss) {l:List (List je)} (ha:Ck ss=some l) {a b:Int} (hi:ni [.agg [S]]=some (.bc [.agg [.bool true,i64 a,i64 b],i64 0])):
 ∃ T,tg [.agg [S]]=some (.bc [T,i64 0])∧er T ss l:=by
 have hS1:(AV.pv S).one=true:=by rcases hS.is with⟨h,_⟩ | h <;> rw[h] <;> rfl
 have hb:=(BK hS).2.2.2 ta hpre l ha
 obtain⟨S',hcp,hS'⟩:=zA hS ta
 have hS'1:(AV.pv S').one=true:=by rcases hS' with⟨h,_⟩ | h <;> rw[h] <;> rfl
 have lS:=hS.Mc
 obtain⟨k64,k256⟩:=aC ha
 have hst:=kI k64 k256
 have hV1:(AV.pv (jm l)).one=true:=rfl
 have hVl:Ah 1 (jm l) (l.map nf):= .inr rfl
 have lV:=hVl.len
 rw[List.length_map] at lV
 have heo:=qF ta hpre ha
 obtain⟨V,hVe⟩:∃ V,V=jm l:=⟨_,rfl⟩
 rw[← hVe] at hb hst hV1 hVl lV
 have st:Pa [.box [.pv .qa]] 1 (.ptr 0 0) (.pv (.agg [V]))=some [.box [.pv V]]:=by simp[Pa,AV.cells,PV.cells,hV1,oa]
 have st2:Pa [.box [.pv V],.box [.pv (.bool false),.pv (i64 0),.pv (i64 0)]] 3 (.ptr 1 0) (.pv (.agg [.bool true,i64 a,i64 b]))=some [.box [.pv V],.box [.pv (.bool true),.pv (i64 a),.pv (i64 b)]]:=rfl
 have p2:∀ a b c d,place [a,.box [b,c,d]] 0 (.ptr 1 0)=some (.ptr 1 0):=fun a b c d=>rfl
 have l2:∀ a b c d,na [a,.box [b,c,d]] false 1 (.ptr 1 0)=some b:=fun a b c d=>rfl
 have l3:na [.box [.pv V],.box [.pv (.bool true),.pv (i64 a),.pv (i64 b)]] true 1 (.ptr 0 0)=some (.pv (.agg [V])):=rfl
 have z0:((0:Int)==0)=true:=rfl
 have z1:((0:Int) != 0)=false:=rfl
 have m1:oa [AV.pv PV.qa,.pv .qa,.pv .qa,.pv .qa,.pv .qa,.pv (.int .i64 0)] 0 [AV.pv S']=[.pv S',.pv .qa,.pv .qa,.pv .qa,.pv .qa,.pv (.int .i64 0)]:=rfl
 have m2:oa [AV.pv S',.pv .qa,.pv .qa,.pv .qa,.pv .qa,.pv (.int .i64 0)] 1 [AV.pv V]=[.pv S',.pv V,.pv .qa,.pv .qa,.pv .qa,.pv (.int .i64 0)]:=rfl
 have m3:Bc [AV.pv S',.pv V,.pv .qa,.pv .qa,.pv .qa,.pv (.int .i64 0)]=some [S',V,.qa,.qa,.qa,.int .i64 0]:=rfl
 have hz1:(0 < 256)=True:=by simp
 have hz2:(0 < 3)=True:=by simp
 have hz3:(0 < 1)=True:=by simp
 suffices key:ke (fun r=>∃ T,r= .bc [T,i64 0]∧er T ss l) (tg [.agg [S]]) by
  obtain⟨r,h1,T,rfl,h2⟩:=vd key
  exact⟨T,h1,h2⟩
 generalize hQ:(fun r=>∃ T,r=PV.bc [T,i64 0]∧_)=Q
 simp -implicitDefEqProofs only[tg,eG.eq_1,SX,sevalprocAttr,Zl,hS1,hV1,hS'1,PL,Bg,NK,hb,hi,st,st2,p2,l2,l3,z0,z1,hcp,m1,m2,m3,Ry,ff,hz1,hz2,hz3,lS]
 generalize hEE:(Tr.set _ 48 _:Tr)=E
 have q4:E.get 4= .ptr 0 0:=by rw[← hEE];simp[Tr.ba]
 have q8:E.get 8= .ptr 2 0:=by rw[← hEE];simp[Tr.ba]
 have q46:E.get 46= .pv S:=by rw[← hEE];simp[Tr.ba]
 have q47:E.get 47= .pv (i64 ss.length):=by rw[← hEE];simp[Tr.ba]
 have q48:E.get 48= .pv (i64 0):=by rw[← hEE];simp[Tr.ba]
 refine Wa (nQ (call:=Ef Hn (fun _=>none) 8) (uN (V:=V) (S':=S') (y:=true) (a:=a) (b:=b)) hS ta q4 q8 q46 q47 q48) ?_
 rintro r ⟨_,E2,nl,nr,rfl,g4,g8,hnl,hnr⟩
 have hdl:(ss.map fun s=>Sg s.parts).length=ss.length:=by rw[List.length_map]
 have hrl:=Dm ss ss.length
 have hDl:=sC ss
 have p5:∀ d,place (Qt (.box [.pv V]) (.box [.pv (.bool true),.pv (i64 a),.pv (i64 b)]) (.tok 256 0 true) (.pv S') (.pv V) (.uq 3 true 256 []) nl (ss.map fun s=>Sg s.parts) (Fg ss ss.length) 0 nr (Ng ss)) d (.ptr 2 0)=some (.ptr 2 (0+d)):=fun d=>Ke rfl d 0
 have l5:na (Qt (.box [.pv V]) (.box [.pv (.bool true),.pv (i64 a),.pv (i64 b)]) (.tok 256 0 true) (.pv S') (.pv V) (.uq 3 true 256 []) nl (ss.map fun s=>Sg s.parts) (Fg ss ss.length) 0 nr (Ng ss)) false 1 (.ptr 2 4)=some (.own 5 ss.length):=by
  rw[← hrl,Dm]
  show some (AV.own 5 (Fg ss ss.length).length)=_
  rw[hrl]
 have hsort:=jN ta.len (H:=Qt (.box [.pv V]) (.box [.pv (.bool true),.pv (i64 a),.pv (i64 b)]) (.tok 256 0 true) (.pv S') (.pv V) (.uq 3 true 256 []) nl (ss.map fun s=>Sg s.parts) (Fg ss ss.length) 0 nr (Ng ss)) rfl
 have hHT:(Qt (.box [.pv V]) (.box [.pv (.bool true),.pv (i64 a),.pv (i64 b)]) (.tok 256 0 true) (.pv S') (.pv V) (.uq 3 true 256 []) nl (ss.map fun s=>Sg s.parts) (Fg ss ss.length) 0 nr (Ng ss)).set 5 (.seq 3 true (ae (ah ss).flatten) (ss.length * 3) nr)=Cr (.box [.pv V]) (.box [.pv (.bool true),.pv (i64 a),.pv (i64 b)]) (.tok 1 ss.length nl) (.seq 3 true (ae (ah ss).flatten) (ss.length * 3) nr) (.pv S') (.pv V) (.uq 4 nl 1 (ss.map fun s=>Sg s.parts)) (.own 5 ss.length) (.pv (i64 (Ng ss))) true []:=by
  unfold Qt Cr
  rw[hdl,hrl];rfl
 rw[hHT] at hsort
 have p6:∀ d,place (Cr (.box [.pv V]) (.box [.pv (.bool true),.pv (i64 a),.pv (i64 b)]) (.tok 1 ss.length nl) (.seq 3 true (ae (ah ss).flatten) (ss.length * 3) nr) (.pv S') (.pv V) (.uq 4 nl 1 (ss.map fun s=>Sg s.parts)) (.own 5 ss.length) (.pv (i64 (Ng ss))) true []) d (.ptr 0 0)=some (.ptr 0 (0+d)):=fun d=>Ke rfl d 0
 have l6:na (Cr (.box [.pv V]) (.box [.pv (.bool true),.pv (i64 a),.pv (i64 b)]) (.tok 1 ss.length nl) (.seq 3 true (ae (ah ss).flatten) (ss.length * 3) nr) (.pv S') (.pv V) (.uq 4 nl 1 (ss.map fun s=>Sg s.parts)) (.own 5 ss.length) (.pv (i64 (Ng ss))) true []) false 1 (.ptr 0 0)=some (.pv V):=rfl
 have hnx:=fun (E3:Tr) (r8:E3.get 8= .ptr 2 0) (r101:E3.get 101= .pv V) (r102:E3.get 102= .pv (i64 l.length)) (r103:E3.get 103= .pv (i64 0))=>
  sQ (call:=Ef Hn (fun _=>none) 8) (YM (V:=V) (S':=S') (y:=true) (a:=a) (b:=b) (m:=Ng ss) (nl:=nl) (ds:=ss.map fun s=>Sg s.parts) (D:=ah ss) (fl:=ss.length * 3) (k:=ss.length) (nr:=nr)) hVl k64 k256 heo r8 r101 r102 r103
 obtain⟨NX,hNX⟩:∃ x,x=fun nx=>Cr (.box [.pv V]) (.box [.pv (.bool true),.pv (i64 a),.pv (i64 b)]) (.tok 1 ss.length nl) (.seq 3 true (ae (ah ss).flatten) (ss.length * 3) nr) (.pv S') (.pv V) (.uq 4 nl 1 (ss.map fun s=>Sg s.parts)) (.own 5 ss.length) (.pv (i64 (Ng ss))) nx (l.map Fk):=⟨_,rfl⟩
 have hnx':=hnx
 generalize Qt (.box [.pv V]) (.box [.pv (.bool true),.pv (i64 a),.pv (i64 b)]) (.tok 256 0 true) (.pv S') (.pv V) (.uq 3 true 256 []) nl (ss.map fun s=>Sg s.parts) (Fg ss ss.length) 0 nr (Ng ss)=HS at *
 simp -implicitDefEqProofs only[SX,sevalprocAttr,g4,g8,p5,l5,hsort,p6,l6,lV]
 generalize hEE3:(Tr.set _ 103 _:Tr)=E3
 refine Wa (hnx E3 (by rw[← hEE3];simp[Tr.ba,g8]) (by rw[← hEE3];simp[Tr.ba]) (by rw[← hEE3];simp[Tr.ba]) (by rw[← hEE3];simp[Tr.ba])) ?_
 rintro r ⟨_,E4,nx,rfl,r8,hx⟩
 obtain⟨NX,DG,RW,t1,t2,t3,t4⟩:=bN (V:=V) (S':=S') (o0:= .box [.pv V]) (o1:= .box [.pv (.bool true),.pv (i64 a),.pv (i64 b)]) (m:=Ng ss) (nl:=nl) (nr:=nr) (nx:=nx) (ds:=ss.map fun s=>Sg s.parts) (es:=l.map Fk) (D:=ah ss) (fl:=ss.length * 3) (k:=ss.length) hDl (fun r hr=>Xw hr) (fun h=>by rw[hnl h];rfl) (fun h=>by have:=hDl;rw[hnr h] at this ⊢;exact List.eq_nil_of_length_eq_zero this) (fun h=>by rw[hx h];rfl)
 generalize Cr (.box [.pv V]) (.box [.pv (.bool true),.pv (i64 a),.pv (i64 b)]) (.tok 1 ss.length nl) (.seq 3 true (ae (ah ss).flatten) (ss.length * 3) nr) (.pv S') (.pv V) (.uq 4 nl 1 (ss.map fun s=>Sg s.parts)) (.own 5 ss.length) (.pv (i64 (Ng ss))) nx (l.map Fk)=HT at *
 have hm1:Ep [AV.ptr 2 0,.pv (.int .i64 0)]= .bc [.ptr 2 0,.pv (.int .i64 0)]:=rfl
 have htp:Ab HT 6 (.bc [.ptr 2 0,.pv (.int .i64 0)])=some (.bc [.rp [S',V,NX,DG,RW,i64 (Ng ss)] 0,i64 0]):=by
  show (Va (Ab HT 5) [AV.ptr 2 0,.pv (.int .i64 0)]).map PV.bc=_
  have hv:Ab HT 5 (.pv (.int .i64 0))=some (.int .i64 0):=rfl
  simp only[Va,t1,hv,Option.bind_some,Option.map_some]
 simp -implicitDefEqProofs only[SX,sevalprocAttr,r8,eB,hm1,htp]
 subst hQ
 exact⟨_,rfl,⟨S',NX,DG,RW,by rw[hVe],hS',t2,t3,t4⟩⟩
end Go.AM.B1
namespace Go.AM.B1
open Go.AM Go.AM.So
section
variable {S:PV} {ss:List ec} {es:List PV} (hS:Ld S ss es) (ta:ue ss)
include hS ta
end
end Go.AM.B1
namespace Go.AM.B1
open Go.AM Go.AM.So
def bE (ls:List (List (Int×Int))) (i:Nat):List PV:=(List.range 258).map fun k=>tE ls (i * 258+k)
theorem GD (H:List aa) (d o:Nat) (row:List PV):place H d (.pv (.rp row o))=some (.pv (.rp row (o+d))):=rfl
theorem OT (H:List aa) (o n:Nat) (row:List PV):place H (n * 1) (.pv (.rp row o))=some (.pv (.rp row (o+n))):=by rw[Nat.mul_one];rfl
theorem HC {ls:List (List (Int×Int))} {i:Nat} (hi:i < ls.length) (H:List aa):ma H 258 (.pv (.lit 258 ((List.range ls.length).map (BD ls)))) (i:Int)=some (.pv (.rp (bE ls i) 0)):=by
 simp only[ma]
 rw[if_pos ⟨trivial,by unfold Ca;simp;omega⟩,Int.toNat_natCast,List.getElem?_map,List.getElem?_range hi];rfl
theorem cB {ls:List (List (Int×Int))} {i k:Nat} (hk:k < 258) (H:List aa):na H false 1 (.pv (.rp (bE ls i) k))=some (.pv (tE ls (i * 258+k))):=by
 have:(bE ls i)[k]? =some (tE ls (i * 258+k)):=by rw[bE,List.getElem?_map,List.getElem?_range hk];rfl
 simp only[na,Gk,Bool.false_eq_true,if_false,this];rfl
theorem rS {ls:List (List (Int×Int))} {i:Nat} (H:List aa):na H false 1 (.pv (.rp (bE ls i) 0))=some (.pv (Sl (ls.getD i []))):=by
 rw[cB (by omega),tE,if_pos (by omega),show (i * 258+0) / 258=i by omega]
theorem CO {ls:List (List (Int×Int))} {i:Nat} (H:List aa):na H false 1 (.pv (.rp (bE ls i) 257))=some (.pv (i64 (Ba (ls.drop (i+1))))):=by
 rw[cB (by omega),tE,if_neg (by omega),if_pos (by omega),show (i * 258+257) / 258=i by omega]
theorem TR {ls:List (List (Int×Int))} {i y:Nat} (hy:y < 256) (H:List aa):na H false 1 (.pv (.rp (bE ls i) (1+y)))=some (.pv (Gq (ls.getD i []) y)):=by
 rw[cB (by omega),tE,if_neg (by omega),if_neg (by omega),show (i * 258+(1+y)) / 258=i by omega,show (i * 258+(1+y)) % 258 - 1=y by omega]
theorem tJ {ls:List (List (Int×Int))} {i:Nat} (hi:i < ls.length):ls.getD i []=ls[i]:=by rw[List.getD_eq_getElem?_getD,List.getElem?_eq_getElem hi];rfl
abbrev mH (C B:PV) (n i k:Int):Tr:=((((Tr.lf.set 22 (.pv (i64 i))).set 21 (.pv (i64 n))).set 6 (.pv (i64 k))).set 1 (.pv B)).set 0 (.pv (.rp [C] 0))
theorem wE {s:ec} {B:PV} {bs:List Int} (hB:ej B bs) (ta:Mg s):
 (∀ k,zj s bs=some k→Nd [Sg s.parts,B]=some (.bc [i64 k,.bool true]))∧(zj s bs=none→Nd [Sg s.parts,B]=some (.bc [i64 0,.bool false])):=by
 have lB:=hB.Mc
 have h8:=ta.hi
 have hpr:=ta.prod.2
 have hia:=fun {i:Nat} (hi:i < s.parts.length)=>HC (ls:=s.parts) hi
 have hcl:((List.range s.parts.length).map (BD s.parts)).length=s.parts.length:=by simp
 have hdg:Sg s.parts= .rp [.lit 258 ((List.range s.parts.length).map (BD s.parts))] 0:=rfl
 rw[hdg]
 generalize (List.range s.parts.length).map (BD s.parts)=C at *
 by_cases hlen:bs.length=s.parts.length
 ·have hrk:zj s bs=dh s.parts bs 0:=by unfold zj;rw[if_pos hlen]
  have hloop:ke (fun r=>∃ E,(r=(.ret,⟨E,[]⟩)∧E.get 4= .pv (i64 0)∧E.get 5= .pv (.bool false)∧dh s.parts bs 0=none)∨(∃ k,r=(.exit 0,⟨E,[]⟩)∧E.get 6= .pv (i64 k)∧dh s.parts bs 0=some k))
   (Eb (fa (ga (za (fun _=>none) 8) Rc) (xa 0 [0,1,6,21,22])) wa ⟨mH (.lit 258 C) B s.parts.length 0 0,[]⟩):=by
   refine Wa (Te (g:=fa (ga (za (fun _=>none) 8) Rc) (xa 0 [0,1,6,21,22]))
    (fun i t=>∃ k,t=⟨mH (.lit 258 C) B s.parts.length i k,[]⟩∧0≤k∧k+Ba (s.parts.drop i)≤Ba s.parts∧dh s.parts bs 0=dh (s.parts.drop i) (bs.drop i) k)
    s.parts.length (by unfold wa;omega) _ ⟨0,rfl,by omega,by simp,rfl⟩ ?_ ?_) (fun r h=>h.2)
   ·rintro i t hi ⟨k,rfl,hk0,hk1,hs⟩
    have hpo:=ta.parts s.parts[i] (List.getElem_mem hi)
    have hib:i < bs.length:=by omega
    have a3:=hB.mg hib
    have hbr:=hB.iw bs[i] (List.getElem_mem hib)
    have hd:s.parts.drop i=s.parts[i]::s.parts.drop (i+1):=List.drop_eq_getElem_cons hi
    have hdb:bs.drop i=bs[i]::bs.drop (i+1):=List.drop_eq_getElem_cons hib
    have hrb:=Bn (x:=bs[i]) (n:=0) hpo.2
    rw[hd,Ba] at hk1
    rw[hd,hdb,dh] at hs
    have hle:=Kk ta.parts (i+1)
    have hpos:=Ue (ls:=s.parts.drop (i+1)) fun x hx=>ta.parts x (List.mem_of_mem_drop hx)
    have hsz:=Gg hpo
    have a1:=hia hi
    have a4:=CO (ls:=s.parts) (i:=i)
    have a5:=TR (ls:=s.parts) (i:=i) (y:=(bs[i]).toNat) (by omega)
    rw[tJ hi] at a5
    generalize bE s.parts i=R at *
    generalize s.parts[i]=l at *
    generalize bs[i]=x at *
    have hwp:Gq l x.toNat= .int .u16 (if (me x 0 l).2 then (me x 0 l).1+1 else 0):=by unfold Gq;rw[Int.toNat_of_nonneg hbr.1]
    rw[hwp] at a5
    have e1:decide ((i:Int) < (s.parts.length:Int))=true:=Za (by omega)
    have t2:=Bb hi (by unfold maxLen;omega)
    have hidx:(0≤x∧x < ((256:Nat):Int))=True:=eq_true (by omega)
    obtain⟨⟨d,is⟩,hrk2⟩:∃ r,r=me x 0 l:=⟨_,rfl⟩
    rw[← hrk2] at hs hrb a5
    generalize hQ:LN _ _ i=Q
    cases is with
    |false=>
     simp only[Bool.false_eq_true,if_false] at hs a5
     have t3:IntKind.i64.wrap 0=0:=rfl
     have z1:((0:Int)==0)=true:=rfl
     simp -implicitDefEqProofs only[SX,sevalprocAttr,Rc,e1,a1,a3,a5,GD,OT,Bg,hidx,t3,z1,mH]
     subst hQ
     exact⟨_,.inl ⟨rfl,by simp[Tr.ba],by simp[Tr.ba],hs⟩⟩
    |true=>
     simp only[if_true] at hs a5
     have hb2:=hrb rfl
     simp only at hb2
     have hmul:d * Ba (s.parts.drop (i+1))+Ba (s.parts.drop (i+1))≤Ba (s.parts.drop (i+1)) * Dc 0 l:=by
      have h1:(d+1) * Ba (s.parts.drop (i+1))≤Dc 0 l * Ba (s.parts.drop (i+1)):=Int.mul_le_mul_of_nonneg_right (by omega) (by omega)
      rw[Int.add_mul,Int.one_mul,Int.mul_comm (Dc 0 l)] at h1
      exact h1
     have hm0:0≤d * Ba (s.parts.drop (i+1)):=Int.mul_nonneg (by omega) (by omega)
     have t3:IntKind.i64.wrap (d+1)=d+1:=Da (by omega)
     have t6:IntKind.i64.wrap (d+1 - 1)=d:=by rw[show d+1 - 1=d by omega];exact Da (by omega)
     have z1:((d+1:Int)==0)=false:=by simp;omega
     have t4:IntKind.i64.wrap (d * Ba (s.parts.drop (i+1)))=d * Ba (s.parts.drop (i+1)):=Da (by omega)
     have t5:IntKind.i64.wrap (k+d * Ba (s.parts.drop (i+1)))=k+d * Ba (s.parts.drop (i+1)):=Da (by omega)
     simp -implicitDefEqProofs only[SX,sevalprocAttr,Rc,e1,t2,t3,t4,t5,t6,z1,a1,a3,a4,a5,GD,OT,Bg,hidx,xa,Qa,AV.cut,Sa,mH]
     subst hQ
     exact⟨_,rfl,by omega,by omega,hs⟩
   ·rintro t ⟨k,rfl,hk0,hk1,hs⟩
    rw[List.drop_length,Xp] at hs
    have e1:decide ((s.parts.length:Int) < (s.parts.length:Int))=false:=mb (by omega)
    generalize hQ:(fun r:Ex×St=>r.1.stop=true∧_)=Q
    simp -implicitDefEqProofs only[SX,sevalprocAttr,Rc,e1,mH]
    subst hQ
    exact⟨rfl,_,.inr ⟨k,rfl,by simp[Tr.ba],hs⟩⟩
  obtain⟨r,h1,E,h2⟩:=vd hloop
  have h1':Eb (fa (ga (za (fun _=>none) 8) Rc) (xa 0 [0,1,6,21,22])) wa ⟨((((Tr.lf.set 22 (.pv (.int .i64 0))).set 21 (.pv (i64 s.parts.length))).set 6 (.pv (.int .i64 0))).set 1 (.pv B)).set 0 (.pv (.rp [.lit 258 C] 0)),[]⟩=some r:=h1
  have d1:((bs.length:Int) != (s.parts.length:Int))=false:=by rw[hlen];simp
  rw[hrk]
  rcases h2 with⟨rfl,h4,h5,hn⟩ | ⟨k,rfl,h6,hk⟩
  ·refine⟨fun k hk=>by (rw[hn] at hk;cases hk),fun _=> ?_⟩
   simp -implicitDefEqProofs only[Nd,SX,sevalprocAttr,Af,Tc,GD,Bg,lB,hcl,d1,xa,Qa,AV.cut,Sa,h1',h4,h5]
  ·refine⟨fun k' hk'=> ?_,fun hn=>by (rw[hk] at hn;cases hn)⟩
   obtain rfl:k=k':=Option.some.inj (hk.symm.trans hk')
   simp -implicitDefEqProofs only[Nd,SX,sevalprocAttr,Af,Tc,GD,Bg,lB,hcl,d1,xa,Qa,AV.cut,Sa,h1',h6]
 ·have d1:((bs.length:Int) != (s.parts.length:Int))=true:=by
   have:(bs.length:Int)≠(s.parts.length:Int):=by omega
   simp[this]
  have hrk:zj s bs=none:=by unfold zj;rw[if_neg hlen]
  refine⟨fun k hk=>by (rw[hrk] at hk;cases hk),fun _=> ?_⟩
  simp -implicitDefEqProofs only[Nd,SX,sevalprocAttr,Af,GD,Bg,lB,hcl,d1]
theorem KP {l:List (Int×Int)} (h:Jd l) {k x:Int} (h0:0≤k) (h1:k < Dc 0 l) (hx:fO k l=some x):(fi l)[k.toNat]? =some x:=by
 obtain⟨y,q1,_,_,_,q5⟩:=Lt h.2 h0 h1
 rw[hx] at q1;injection q1 with q1;subst q1
 have hr:=q5 0
 obtain⟨m,e1,e2⟩:=Yq (n:=0) h.2 (by rw[hr])
 rw[hr] at e2
 simp only at e2
 rw[show k.toNat=m by omega];exact e1
abbrev cK (C:PV) (n i k:Int) (es:List PV):Tr:=((((Tr.lf.set 19 (.pv (i64 i))).set 18 (.pv (i64 n))).set 5 (.uq 0 false 1 es)).set 1 (.pv (i64 k))).set 0 (.pv (.rp [C] 0))
theorem qz {s:ec} (ta:Mg s) {k:Int} (h0:0≤k) (h1:k < Ba s.parts):Lh [Sg s.parts,i64 k]=some (.lit 1 ((Bf s.parts k).map (PV.int .u8))):=by
 have h8:=ta.hi
 have hpr:=ta.prod.2
 have hia:=fun {i:Nat} (hi:i < s.parts.length)=>HC (ls:=s.parts) hi
 have hcl:((List.range s.parts.length).map (BD s.parts)).length=s.parts.length:=by simp
 have hdg:Sg s.parts= .rp [.lit 258 ((List.range s.parts.length).map (BD s.parts))] 0:=rfl
 rw[hdg]
 generalize (List.range s.parts.length).map (BD s.parts)=C at *
 have hloop:ke (fun r=>∃ E H,r=(.exit 0,⟨E,H⟩)∧E.get 5= .uq 0 false 1 ((Bf s.parts k).map (PV.int .u8)))
  (Eb (fa (ga (za (fun _=>none) 8) Xd) (xa 1 [0,1,5,18,19])) wa ⟨cK (.lit 258 C) s.parts.length 0 k [],[.tok 1 0 false]⟩):=by
  refine Wa (Te (fun i t=>∃ j es,t=⟨cK (.lit 258 C) s.parts.length i j (es.map (PV.int .u8)),[.tok 1 i false]⟩∧0≤j∧j < Ba (s.parts.drop i)∧es.length=i∧Bf s.parts k=es++Bf (s.parts.drop i) j)
   s.parts.length (by unfold wa;omega) _ ⟨k,[],rfl,h0,h1,rfl,rfl⟩ ?_ ?_) (fun r h=>h.2)
  ·rintro i t hi ⟨j,es,rfl,hj0,hj1,hel,hs⟩
   have hpo:=ta.parts s.parts[i] (List.getElem_mem hi)
   have hd:s.parts.drop i=s.parts[i]::s.parts.drop (i+1):=List.drop_eq_getElem_cons hi
   rw[hd,Ba] at hj1
   rw[hd,Bf] at hs
   have hpos:=Ue (ls:=s.parts.drop (i+1)) fun x hx=>ta.parts x (List.mem_of_mem_drop hx)
   have hle:=Kk ta.parts (i+1)
   have hdv:=kO hj0 hpos hj1
   obtain⟨x,q3,q4,q5,_⟩:=Lt hpo.2 hdv.1 hdv.2.1
   rw[q3,Option.getD_some] at hs
   have hm:=KP hpo hdv.1 hdv.2.1 q3
   have hml:=getElem?_lt hm
   have hle2:=Kk ta.parts i
   rw[hd,Ba] at hle2
   have t3:IntKind.i64.wrap (j.tdiv (Ba (s.parts.drop (i+1))))=j.tdiv (Ba (s.parts.drop (i+1))):=Da (by
    have:=hdv.2.2.2.2
    have h5:j.tdiv (Ba (s.parts.drop (i+1))) * 1≤j.tdiv (Ba (s.parts.drop (i+1))) * Ba (s.parts.drop (i+1)):=Int.mul_le_mul_of_nonneg_left hpos hdv.1
    omega)
   have a1:=hia hi
   have a4:=CO (ls:=s.parts) (i:=i)
   have a5:=rS (ls:=s.parts) (i:=i)
   rw[tJ hi] at a5
   generalize bE s.parts i=R at *
   generalize s.parts[i]=l at *
   have a6:∀ H,ma H 1 (.pv (Sl l)) (j.tdiv (Ba (s.parts.drop (i+1))))=some (.pv (.rp [.int .u8 x] 0)):=fun H=>by
    simp only[ma,Sl]
    rw[if_pos ⟨trivial,by unfold Ca;rw[List.length_map];omega⟩,List.getElem?_map,hm];rfl
   have e1:decide ((i:Int) < (s.parts.length:Int))=true:=Za (by omega)
   have t2:=Bb hi (by unfold maxLen;omega)
   have z0:(Ba (s.parts.drop (i+1))=0)=False:=by simp;omega
   have hap:=Ts (A:=[.tok 1 i false]) (id:=0) (n:=i) (h:= .uq) (nl:=false) (bytes:=1) (es:=es.map (PV.int .u8)) rfl (by simp[hel]) (by unfold Cb;omega) (.int .u8 x)
   rw[List.set_cons_zero] at hap
   have hbm:(es++[x]).map (PV.int .u8)=es.map (PV.int .u8)++[.int .u8 x]:=by simp
   generalize hpq:Ba (s.parts.drop (i+1))=pr at *
   generalize hQ:LN _ _ i=QQ
   simp -implicitDefEqProofs only[SP,WP,oa,sevalprocAttr,Xd,e1,t2,t3,z0,a1,a4,a5,a6,GD,Bg,hap,xa,Qa,AV.cut,pa,Sa,cK]
   subst hQ
   exact⟨_,es++[x],by rw[hbm],hdv.2.2.1,by rw[hpq];exact hdv.2.2.2.1,by simp[hel],by rw[hs];simp⟩
  ·rintro t ⟨j,es,rfl,hj0,hj1,hel,hs⟩
   rw[List.drop_length,Bf,List.append_nil] at hs
   have e1:decide ((s.parts.length:Int) < (s.parts.length:Int))=false:=mb (by omega)
   generalize hQ:(fun r:Ex×St=>r.1.stop=true∧_)=Q
   simp -implicitDefEqProofs only[SX,sevalprocAttr,Xd,e1,cK]
   subst hQ
   exact⟨rfl,_,_,rfl,by rw[hs];simp[Tr.ba]⟩
 obtain⟨r,g1,E,H,rfl,g6⟩:=vd hloop
 have g1':Eb (fa (ga (za (fun _=>none) 8) Xd) (xa 1 [0,1,5,18,19])) wa ⟨((((Tr.lf.set 19 (.pv (.int .i64 0))).set 18 (.pv (i64 s.parts.length))).set 5 (.uq 0 false 1 [])).set 1 (.pv (i64 k))).set 0 (.pv (.rp [.lit 258 C] 0)),[.tok 1 0 false]⟩=some (.exit 0,⟨E,H⟩):=g1
 have e4:Cb s.parts.length 1:=by unfold Cb;omega
 have e2:(0≤(s.parts.length:Int))=True:=by simp
 have e5:((0:Int)≤0)=True:=by simp
 simp -implicitDefEqProofs only[Lh,SX,sevalprocAttr,Hk,GD,Bg,hcl,eq_true e4,e2,e5,Tc,xa,Qa,AV.cut,pa,Sa,g1',g6,zi,fresh,Bc,chunk]
end Go.AM.B1
