/- What functions of the program compute. -/
import Derived.Test.YtijlhblleiaomaaGreatN12
import Derived.Test.YtijlhblleiaomaaGreatN3
import Derived.Test.YtijlhblleiaomaaGreatN7
import Derived.Test.YtijlhblleiaomaaGreatN8
import Derived.Test.YtijlhblleiaomaaGreatN11
import Derived.Test.YtijlhblleiaomaaGreatN4
set_option linter.unusedVariables false
set_option linter.unusedSimpArgs false
namespace Go.AM.B1
open Go.AM Go.AM.So
section
variable {call:Fa} {o0 o1 o4 o5:aa} {c0 c1 c3 c4 c5:AV}
 (hg:∀ nl es,Kc (Cr o0 o1 o4 o5 c0 c1 c3 c4 c5 nl es))
include hg
theorem BP {E:Tr} {V:PV} {l:List (List ke)} (hV:Bh 1 V (l.map sf)) (hl:l.length≤64) (hle:∀ e∈l,e.length≤256) (ta:∀ e∈l,uk e)
 (h8:E.get 8= .ptr 2 0) (h101:E.get 101= .pv V) (h102:E.get 102= .pv (i64 l.length)) (h103:E.get 103= .pv (i64 0)):
 me (fun r=>r.1.stop=true∧∃ E' nl,r=(.exit 2,⟨E',Cr o0 o1 o4 o5 c0 c1 c3 c4 c5 nl (l.map Ek)⟩)∧E'.get 8= .ptr 2 0∧(nl=true→l=[]))
  (ga call (.loop [8,101,102,103] Zf) ⟨E,Cr o0 o1 o4 o5 c0 c1 c3 c4 c5 true []⟩):=by
 have hgl:∀ nl es,(Cr o0 o1 o4 o5 c0 c1 c3 c4 c5 nl es).length=6:=fun _ _=>rfl
 have hgd:∀ nl es,∀ o∈Cr o0 o1 o4 o5 c0 c1 c3 c4 c5 nl es,pa 6 o=some o:=fun nl es o ho=>hg nl es 6 (by rw[hgl];exact Nat.le_refl _) o ho
 have hcut:Fit 6 [8,101,102] E:= .cons h8 (yq (by omega)) (.cons h101 Ha (.cons h102 Ha (.nil _ _)))
 refine cq (fun i t=>oe [8,101,102] E t.env∧t.env.get 103= .pv (i64 i)∧∃ nl,t.H=Cr o0 o1 o4 o5 c0 c1 c3 c4 c5 nl ((l.take i).map Ek)∧(nl=true→i=0)) l.length (by unfold wa;omega) ?_ ?_ ?_
 ·rw[hgl]
  exact Tg.all rfl (hgd _ _) (Fit.sub (.cons h103 Ha hcut) rfl) fun E' hE=>⟨oe.sub hE rfl,by rw[hE 103 (by simp),h103];rfl,true,rfl,fun _=>rfl⟩
 ·rintro i ⟨E1,H1⟩ hi ⟨k1,k2,nl,k3,k4⟩
  simp only at k1 k2 k3
  subst k3
  refine Xa (oN (call:=call) hg hV hl hle ta hi (by simp;omega) ((k1 8 (by simp)).trans h8) ((k1 101 (by simp)).trans h101) ((k1 102 (by simp)).trans h102) k2) ?_
  rintro r ⟨E2,rfl,k5,k6⟩
  rw[Nn,hgl]
  have hnx:(l.take (i+1)).map Ek=(l.take i).map Ek++[Ek l[i]]:=by rw[List.take_succ_eq_append_getElem hi,List.map_append];rfl
  exact Tg.front (hgl _ _).symm (hgd _ _) (Fit.sub (.cons k6 Ha (hcut.Wc (k1.trans k5))) rfl) fun E' hE=>⟨(k1.trans k5).trans (oe.sub hE rfl),by rw[hE 103 (by simp),k6],false,by rw[hnx],fun h=>by cases h⟩
 ·rintro⟨E1,H1⟩ ⟨k1,k2,nl,k3,k4⟩
  simp only at k1 k2 k3
  subst k3
  have g102:=(k1 102 (by simp)).trans h102
  have e1:decide ((l.length:Int) < (l.length:Int))=false:=mb (by omega)
  rw[List.take_length]
  generalize hQ:(fun r:Ex×St=>r.1.stop=true∧_)=Q
  simp -implicitDefEqProofs only[SX,sevalprocAttr,-List.reduceReplicate,Zf,k2,g102,e1]
  subst hQ
  exact⟨rfl,_,nl,rfl,by rw[Tr.ba,if_neg (by decide)];exact (k1 8 (by simp)).trans h8,fun h=>List.eq_nil_of_length_eq_zero (k4 h)⟩
end
def tr (s:ec) (i:Nat):List Int:=[s.first,s.first+Ba s.parts - 1,(i:Int)]
def Ig (ss:List ec) (n:Nat):List (List Int):=(List.range n).map fun j=>tr (ss.getD j ⟨[],0⟩) j
theorem EI (ss:List ec) {n:Nat} (h:n < ss.length):Ig ss (n+1)=Ig ss n++[tr ss[n] n]:=by
 unfold Ig
 rw[List.range_succ,List.map_append,List.map_cons,List.map_nil,List.getD_eq_getElem?_getD,List.getElem?_eq_getElem h];rfl
theorem Bm (ss:List ec) (n:Nat):(Ig ss n).length=n:=by simp[Ig]
theorem qt {ss:List ec} {n:Nat} {r:List Int} (h:r∈Ig ss n):r.length=3:=by
 unfold Ig at h
 obtain⟨j,_,rfl⟩:=List.mem_map.1 h
 rfl
theorem Ht:∀ {D:List (List Int)},(∀ r∈D,r.length=3)→D.flatten.length=D.length * 3
 | [],_=>rfl
 |r::D,h=>by rw[List.flatten_cons,List.length_append,h r (by simp),Ht fun x hx=>h x (by simp[hx]),List.length_cons];omega
def Eg (ss:List ec):Nat:=ss.foldl (fun m s=>if s.parts.length > m then s.parts.length else m) 0
def Qt (o0 o1 o3:aa) (c0 c1 c2:AV) (nl:Bool) (ds:List PV) (D:List (List Int)) (fl:Nat) (nr:Bool) (m:Int):List aa:=
 [o0,o1,.box [c0,c1,c2,.uq 4 nl 1 ds,.own 5 D.length,.pv (i64 m)],o3,.tok 1 ds.length nl,.seq 3 true (de D.flatten) fl nr]
section
variable {call:Fa} {o0 o1 o3:aa} {c0 c1 c2:AV}
theorem vN {E:Tr} {S:PV} {ss:List ec} {es:List PV} {i:Nat} {nl nr:Bool} {fl:Nat} {ds:List PV} {D:List (List Int)} {m:Nat} (hS:Jd S ss es) (ta:ue ss) (hi:i < ss.length) (hds:ds.length=i) (hD:D.length=i) (hDr:∀ r∈D,r.length=3) (hm:m≤8)
 (h4:E.get 4= .ptr 0 0) (h8:E.get 8= .ptr 2 0) (h46:E.get 46= .pv S) (h47:E.get 47= .pv (i64 ss.length)) (h48:E.get 48= .pv (i64 i)):
 me (fun r=>∃ E' T,r=(.norm,⟨E',Qt o0 o1 o3 c0 c1 c2 false (ds++[Sg ss[i].parts]) (D++[tr ss[i] i]) fl false (if ss[i].parts.length > m then ss[i].parts.length else m:Nat)++T⟩)∧oe [4,8,46,47] E E'∧E'.get 48= .pv (i64 (i+1:Nat)))
  (ga call dg ⟨E,Qt o0 o1 o3 c0 c1 c2 nl ds D fl nr m⟩):=by
 obtain⟨P,ps,hsh,a1⟩:=hS.mg hi
 have hs:=ta.Yx _ (List.getElem_mem hi)
 have h32:=ta.len
 have hcn:=By hsh hs
 have hdg:=CB hsh hs
 have hpo:=We hs.parts
 have hpr:=hs.prod.2
 have hlt:=hs.Mg
 have hl1:=hs.last
 have hf0:=hs.f0
 have hf1:=hs.f1
 have h88:=hs.hi
 have lP:=hsh.parts.Mc
 have hP1:=hsh.ax.1
 have hDl:=Ht hDr
 generalize ss[i]=s at *
 have e1:decide ((i:Int) < (ss.length:Int))=true:=db (by omega)
 have t1:IntKind.i64.wrap ((i:Int)+1)=((i+1:Nat):Int):=Hh (by omega)
 have t2:IntKind.i64.wrap (s.first+Ba s.parts)=s.first+Ba s.parts:=Da (by omega)
 have t3:IntKind.i64.wrap (s.first+Ba s.parts - 1)=s.first+Ba s.parts - 1:=Da (by omega)
 have r2:∀ H (x y:PV),na H true 2 (.pv (.rp [x,y] 0))=some (.pv (.agg [x,y])):=fun H x y=>rfl
 obtain⟨b10,hb10⟩:∃ b,b=aa.box [.pv P,.pv (i64 s.first)]:=⟨_,rfl⟩
 have hH0:(Qt o0 o1 o3 c0 c1 c2 nl ds D fl nr m).length=6:=rfl
 have s1:Pa (Qt o0 o1 o3 c0 c1 c2 nl ds D fl nr m++[.box [.pv .qa,.pv (i64 0)]]) 2 (.ptr 6 0) (.pv (.agg [P,i64 s.first]))=some (Qt o0 o1 o3 c0 c1 c2 nl ds D fl nr m++[b10]):=by
  rw[hb10]
  exact Mk (.pv .qa) (.pv (i64 0)) (.pv P) (.pv (i64 s.first)) hP1 rfl (Qt o0 o1 o3 c0 c1 c2 nl ds D fl nr m) _ rfl
 have p1:∀ d,place (Qt o0 o1 o3 c0 c1 c2 nl ds D fl nr m++[b10]) d (.ptr 2 0)=some (.ptr 2 (0+d)):=fun d=>Le rfl d 0
 have q1:∀ d,place (Qt o0 o1 o3 c0 c1 c2 nl ds D fl nr m++[b10]) d (.ptr 6 0)=some (.ptr 6 (0+d)):=fun d=>Le (by rw[hb10];rfl) d 0
 have l1:na (Qt o0 o1 o3 c0 c1 c2 nl ds D fl nr m++[b10]) false 1 (.ptr 2 4)=some (.own 5 D.length):=rfl
 have l2:na (Qt o0 o1 o3 c0 c1 c2 nl ds D fl nr m++[b10]) false 1 (.ptr 6 1)=some (.pv (i64 s.first)):=by rw[hb10];rfl
 have l3:na (Qt o0 o1 o3 c0 c1 c2 nl ds D fl nr m++[b10]) true 2 (.ptr 6 0)=some (.pv (.agg [P,i64 s.first])):=by rw[hb10];rfl
 obtain⟨H2,hH2⟩:∃ H,H=[o0,o1,.box [c0,c1,c2,.uq 4 nl 1 ds,.own 5 D.length,.pv (i64 m)],o3,.tok 1 ds.length nl,.seq 3 true (de (D++[tr s i]).flatten) fl false,b10]:=⟨_,rfl⟩
 have ap1:Hc (Qt o0 o1 o3 c0 c1 c2 nl ds D fl nr m++[b10]) true .own 3 true 24 (.own 5 D.length) (.pv (.lit 3 [.agg [i64 s.first,i64 (s.first+Ba s.parts - 1),i64 i]]))=some (.own 5 (D.length+1),H2):=by
  rw[hH2]
  have hc:de D.flatten++[AV.pv (i64 s.first),.pv (i64 (s.first+Ba s.parts - 1)),.pv (i64 i)]=de (D++[tr s i]).flatten:=by
   rw[List.flatten_append];simp[de,tr]
  simp only[Hc,Qt,List.cons_append,List.nil_append,List.getElem?_cons_succ,List.getElem?_cons_zero,if_true,Vi,Pe,Option.map_some,Option.bind_some,flat,PV.cells,List.append_nil,List.map_cons,List.map_nil,List.length_cons,List.length_nil]
  rw[if_pos ⟨trivial,by rw[List.length_map];omega,by unfold Cb;omega,rfl⟩,hc]
  simp
 have p2:∀ d,place H2 d (.ptr 2 0)=some (.ptr 2 (0+d)):=fun d=>Le (by rw[hH2];rfl) d 0
 obtain⟨H3,hH3⟩:∃ H,H=[o0,o1,.box [c0,c1,c2,.uq 4 nl 1 ds,.own 5 (D.length+1),.pv (i64 m)],o3,.tok 1 ds.length nl,.seq 3 true (de (D++[tr s i]).flatten) fl false,b10]:=⟨_,rfl⟩
 have s2:Pa H2 1 (.ptr 2 4) (.own 5 (D.length+1))=some H3:=by rw[hH2,hH3];rfl
 have p3:∀ d,place H3 d (.ptr 2 0)=some (.ptr 2 (0+d)):=fun d=>Le (by rw[hH3];rfl) d 0
 have q3:∀ d,place H3 d (.ptr 6 0)=some (.ptr 6 (0+d)):=fun d=>Le (by rw[hH3,hb10];rfl) d 0
 have l4:na H3 false 1 (.ptr 2 5)=some (.pv (i64 m)):=by rw[hH3];rfl
 have l5:na H3 false 1 (.ptr 6 0)=some (.pv P):=by rw[hH3,hb10];rfl
 obtain⟨mm,hmm⟩:∃ x:Nat,x=if s.parts.length > m then s.parts.length else m:=⟨_,rfl⟩
 have hmx:(if (s.parts.length:Int) > (m:Int) then (s.parts.length:Int) else (m:Int))=(mm:Int):=by rw[hmm];split <;> split <;> omega
 obtain⟨H4,hH4⟩:∃ H,H=[o0,o1,.box [c0,c1,c2,.uq 4 nl 1 ds,.own 5 (D.length+1),.pv (i64 mm)],o3,.tok 1 ds.length nl,.seq 3 true (de (D++[tr s i]).flatten) fl false,b10]:=⟨_,rfl⟩
 have s3:Pa H3 1 (.ptr 2 5) (.pv (.int .i64 mm))=some H4:=by rw[hH3,hH4];rfl
 have p4:∀ d,place H4 d (.ptr 2 0)=some (.ptr 2 (0+d)):=fun d=>Le (by rw[hH4];rfl) d 0
 have l6:na H4 false 1 (.ptr 2 3)=some (.uq 4 nl 1 ds):=by rw[hH4];rfl
 have l7:na H4 true 2 (.ptr 6 0)=some (.pv (.agg [P,i64 s.first])):=by rw[hH4,hb10];rfl
 obtain⟨H5,hH5⟩:∃ H,H=[o0,o1,.box [c0,c1,c2,.uq 4 nl 1 ds,.own 5 (D.length+1),.pv (i64 mm)],o3,.tok 1 (ds.length+1) false,.seq 3 true (de (D++[tr s i]).flatten) fl false,b10]:=⟨_,rfl⟩
 have ap2:Hc H4 false .uq 1 false 8 (.uq 4 nl 1 ds) (.pv (.lit 1 [Sg s.parts]))=some (.uq 4 false 1 (ds++[Sg s.parts]),H5):=by
  rw[hH5]
  rw[Kk (A:=H4) (id:=4) (n:=ds.length) (nl:=nl) (by rw[hH4];rfl) rfl (by unfold Cb;omega) (Sg s.parts)]
  rw[hH4];rfl
 have p5:∀ d,place H5 d (.ptr 2 0)=some (.ptr 2 (0+d)):=fun d=>Le (by rw[hH5];rfl) d 0
 have s5:Pa H5 1 (.ptr 2 3) (.uq 4 false 1 (ds++[Sg s.parts]))=some (Qt o0 o1 o3 c0 c1 c2 false (ds++[Sg s.parts]) (D++[tr s i]) fl false mm++[b10]):=by
  rw[hH5]
  have e1:(ds++[Sg s.parts]).length=ds.length+1:=by simp
  have e2:(D++[tr s i]).length=D.length+1:=by simp
  unfold Qt
  rw[e1,e2];rfl
 rw[← hmm]
 have m1:nm (List.map AV.pv [PV.int .i64 0,.int .i64 0,.int .i64 0]) [(0,1,.pv (i64 s.first)),(1,1,.pv (i64 (s.first+Ba s.parts - 1))),(2,1,.pv (i64 i))]=some [.pv (i64 s.first),.pv (i64 (s.first+Ba s.parts - 1)),.pv (i64 i)]:=rfl
 have hdc:(AV.pv (Sg s.parts)).one=true:=rfl
 have hdp:(Sg s.parts).cells=[Sg s.parts]:=rfl
 have hfin:Qt o0 o1 o3 c0 c1 c2 false (ds++[Sg s.parts]) (D++[tr s i]) fl false mm++[b10]=Qt o0 o1 o3 c0 c1 c2 false (ds++[Sg s.parts]) (D++[tr s i]) fl false mm++[b10]:=rfl
 clear hH2 hH3 hH4 hH5 hb10
 generalize hG1:Qt o0 o1 o3 c0 c1 c2 nl ds D fl nr m++[b10]=G1 at *
 generalize hG0:Qt o0 o1 o3 c0 c1 c2 nl ds D fl nr m=G0 at *
 generalize Sg s.parts=dd at *
 generalize hQ:(fun r:Ex×St=>∃ E' T,r=_∧_)=Q
 simp -implicitDefEqProofs only[SP,WP,oa,sevalprocAttr,-List.reduceReplicate,dg,h8,h46,h47,h48,e1,a1,r2,hH0,s1,p1,q1,l1,l2,l3,hcn,t1,t2,t3,ap1,p2,s2,p3,q3,l4,l5,lP,hmx,Wn,zd,s3,p4,l6,l7,hdg,hdc,hdp,ap2,p5,s5]
 subst hQ
 refine⟨_,[b10],rfl,?_,by rw[Tr.ba,if_pos rfl]⟩
 repeat refine oe.set ?_ rfl
 exact oe.refl _ _
theorem HI {ss:List ec} {i:Nat} (hi:i < ss.length):Eg (ss.take (i+1))=if ss[i].parts.length > Eg (ss.take i) then ss[i].parts.length else Eg (ss.take i):=by
 unfold Eg
 rw[List.take_succ_eq_append_getElem hi,List.foldl_append];rfl
theorem YM {ss:List ec} (h:∀ s∈ss,s.parts.length≤8):Eg ss≤8:=by
 have key:∀ (ss:List ec) (m:Nat),m≤8→(∀ s∈ss,s.parts.length≤8)→ss.foldl (fun m s=>if s.parts.length > m then s.parts.length else m) m≤8:=by
  intro ss
  induction ss with
  |nil=>intro m h _;exact h
  |cons s ss ih=>
   intro m hm h
   rw[List.foldl_cons]
   refine ih _ ?_ fun x hx=>h x (by simp[hx])
   have:=h s (by simp)
   split <;> omega
 exact key ss 0 (by omega) h
theorem rP (hg:∀ nl ds D fl nr m,Kc (Qt o0 o1 o3 c0 c1 c2 nl ds D fl nr m)) {E:Tr} {S:PV} {ss:List ec} {es:List PV} (hS:Jd S ss es) (ta:ue ss)
 (h4:E.get 4= .ptr 0 0) (h8:E.get 8= .ptr 2 0) (h46:E.get 46= .pv S) (h47:E.get 47= .pv (i64 ss.length)) (h48:E.get 48= .pv (i64 0)):
 me (fun r=>r.1.stop=true∧∃ E' nl nr,r=(.exit 0,⟨E',Qt o0 o1 o3 c0 c1 c2 nl (ss.map fun s=>Sg s.parts) (Ig ss ss.length) 0 nr (Eg ss)⟩)∧E'.get 4= .ptr 0 0∧E'.get 8= .ptr 2 0∧(nl=true→ss=[])∧(nr=true→ss=[]))
  (ga call (.loop [4,8,46,47,48] dg) ⟨E,Qt o0 o1 o3 c0 c1 c2 true [] [] 0 true 0⟩):=by
 have hgl:∀ nl ds D fl nr m,(Qt o0 o1 o3 c0 c1 c2 nl ds D fl nr m).length=6:=fun _ _ _ _ _ _=>rfl
 have hgd:∀ nl ds D fl nr m,∀ o∈Qt o0 o1 o3 c0 c1 c2 nl ds D fl nr m,pa 6 o=some o:=fun nl ds D fl nr m o ho=>hg nl ds D fl nr m 6 (by rw[hgl];exact Nat.le_refl _) o ho
 have hcut:Fit 6 [4,8,46,47] E:= .cons h4 (yq (by omega)) (.cons h8 (yq (by omega)) (.cons h46 Ha (.cons h47 Ha (.nil _ _))))
 have h32:=ta.len
 refine cq (fun i t=>oe [4,8,46,47] E t.env∧t.env.get 48= .pv (i64 i)∧∃ nl nr,t.H=Qt o0 o1 o3 c0 c1 c2 nl ((ss.take i).map fun s=>Sg s.parts) (Ig ss i) 0 nr (Eg (ss.take i))∧(nl=true→i=0)∧(nr=true→i=0)) ss.length (by unfold wa;omega) ?_ ?_ ?_
 ·rw[hgl]
  exact Tg.all rfl (hgd _ _ _ _ _ _) (Fit.sub (.cons h48 Ha hcut) rfl) fun E' hE=>⟨oe.sub hE rfl,by rw[hE 48 (by simp),h48];rfl,true,true,rfl,fun _=>rfl,fun _=>rfl⟩
 ·rintro i ⟨E1,H1⟩ hi ⟨k1,k2,nl,nr,k3,k4,k5⟩
  simp only at k1 k2 k3
  subst k3
  refine Xa (vN (call:=call) hS ta hi (by simp;omega) (Bm _ _) (fun r hr=>qt hr) (YM fun s hs=>(ta.Yx s (List.mem_of_mem_take hs)).hi) ((k1 4 (by simp)).trans h4) ((k1 8 (by simp)).trans h8) ((k1 46 (by simp)).trans h46) ((k1 47 (by simp)).trans h47) k2) ?_
  rintro r ⟨E2,T,rfl,k6,k7⟩
  rw[Nn,hgl,←EI ss hi,←HI hi]
  have hnx:(ss.take (i+1)).map (fun s=>Sg s.parts)=(ss.take i).map (fun s=>Sg s.parts)++[Sg ss[i].parts]:=by rw[List.take_succ_eq_append_getElem hi,List.map_append];rfl
  exact Tg.front (hgl _ _ _ _ _ _).symm (hgd _ _ _ _ _ _) (Fit.sub (.cons k7 Ha (hcut.Wc (k1.trans k6))) rfl) fun E' hE=>⟨(k1.trans k6).trans (oe.sub hE rfl),by rw[hE 48 (by simp),k7],false,false,by rw[hnx],fun h=>(by cases h),fun h=>(by cases h)⟩
 ·rintro⟨E1,H1⟩ ⟨k1,k2,nl,nr,k3,k4,k5⟩
  simp only at k1 k2 k3
  subst k3
  have g47:=(k1 47 (by simp)).trans h47
  have e1:decide ((ss.length:Int) < (ss.length:Int))=false:=mb (by omega)
  rw[List.take_length]
  generalize hQ:(fun r:Ex×St=>r.1.stop=true∧_)=Q
  simp -implicitDefEqProofs only[SX,sevalprocAttr,-List.reduceReplicate,dg,k2,g47,e1]
  subst hQ
  exact⟨rfl,_,nl,nr,rfl,by rw[Tr.ba,if_neg (by decide)];exact (k1 4 (by simp)).trans h4,by rw[Tr.ba,if_neg (by decide)];exact (k1 8 (by simp)).trans h8,fun h=>List.eq_nil_of_length_eq_zero (k4 h),fun h=>List.eq_nil_of_length_eq_zero (k5 h)⟩
end
end Go.AM.B1
namespace Go.AM.B1
open Go.AM Go.AM.So
end Go.AM.B1
namespace Go.AM.B1
open Go.AM
theorem Jz (Ya:List Int):∀ (xs ys:List Nat) (r:List Int×List Int),Rc Ya (xs++ys) r=Rc Ya ys (Rc Ya xs r)
 | [],ys,r=>rfl
 |x::xs,ys,r=>by rw[List.cons_append,Rc,Rc,Jz Ya xs]
theorem xC {a:Int}:∀ {l:List Int} {k i:Nat},Vt a l k=some i→k≤i∧l[i - k]? =some a
 | [],_,_,h=>by cases h
 |b::l,k,i,h=>by
  simp only[Vt] at h
  split at h
  ·next he=>injection h with h;subst h he;simp
  ·obtain⟨h1,h2⟩:=xC h
   refine⟨by omega,?_⟩
   have:i - k=(i - (k+1))+1:=by omega
   rw[this,List.getElem?_cons_succ];exact h2
structure tT (Ya O:List Int) (n:Nat) (r:List Int×List Int):Prop where
 len:r.2.length=Ya.length
 hi:∀ x,n≤x→r.2.getD x 0=Ya.getD x 0
 ext:∃ t,r.1=O++t∧∀ o∈t,0≤o∧∃ x,x < n∧Ya.getD x 0=o
 nodup:r.1.Nodup
 val:∀ x,x < n→(Ya.getD x 0 < 0→r.2.getD x 0=Ya.getD x 0)∧(0≤Ya.getD x 0→∃ k:Nat,r.2.getD x 0=(k:Int)∧r.1[k]? =some (Ya.getD x 0))
theorem Ah {l:List Int} {x y:Nat} {v:Int} (hx:x < l.length):(l.set x v).getD y 0=if y=x then v else l.getD y 0:=by
 rw[List.getD_eq_getElem?_getD,List.getD_eq_getElem?_getD]
 by_cases h:y=x
 ·subst h;rw[List.getElem?_set_self hx,if_pos rfl];rfl
 ·rw[List.getElem?_set_ne (Ne.symm h),if_neg h]
theorem tT.next {Ya O:List Int} {n:Nat} {r:List Int×List Int} (h:tT Ya O n r) (hn:n < Ya.length):
 tT Ya O (n+1) (Uj n (Ya.getD n 0) r)∧(Uj n (Ya.getD n 0) r).2.getD n 0≤r.1.length∧
 (((Uj n (Ya.getD n 0) r).1.length:Int)=if (Uj n (Ya.getD n 0) r).2.getD n 0=r.1.length then (r.1.length:Int)+1 else r.1.length)∧
 (∀ x,x < n→(Uj n (Ya.getD n 0) r).2.getD x 0=r.2.getD x 0):=by
 obtain⟨t,ht,hts⟩:=h.ext
 have hl:n < r.2.length:=by rw[h.len];exact hn
 have hne:∀ x,x < n→x≠n:=fun x hx=>by omega
 unfold Uj
 by_cases h0:Ya.getD n 0 < 0
 ·rw[if_pos h0]
  have hv:=h.hi n (Nat.le_refl _)
  refine⟨⟨h.len,fun x hx=>h.hi x (by omega),⟨t,ht,fun o ho=>⟨(hts o ho).1,by obtain⟨x,hx,e⟩:=(hts o ho).2;exact⟨x,by omega,e⟩⟩⟩,h.nodup,?_⟩,by rw[hv];omega,by rw[hv,if_neg (by omega)],fun x hx=>rfl⟩
  intro x hx
  rcases Nat.lt_or_ge x n with h1 | h1
  ·exact h.val x h1
  ·have:x=n:=by omega
   subst this;exact⟨fun _=>hv,fun h2=>by omega⟩
 ·rw[if_neg h0]
  cases hi:Vt (Ya.getD n 0) r.1 0 with
  |some k=>
   have hk:=(xC hi).2
   rw[Nat.sub_zero] at hk
   have hkl:=(List.getElem?_eq_some_iff.1 hk).1
   simp only
   refine⟨⟨by rw[List.length_set,h.len],?_,⟨t,ht,fun o ho=>⟨(hts o ho).1,by obtain⟨x,hx,e⟩:=(hts o ho).2;exact⟨x,by omega,e⟩⟩⟩,h.nodup,?_⟩,?_,?_,?_⟩
   ·intro x hx;rw[Ah hl,if_neg (by omega)];exact h.hi x (by omega)
   ·intro x hx
    rcases Nat.lt_or_ge x n with h1 | h1
    ·rw[Ah hl,if_neg (by omega)];exact h.val x h1
    ·have:x=n:=by omega
     subst this
     rw[Ah hl,if_pos rfl]
     exact⟨fun h2=>absurd h2 h0,fun _=>⟨k,rfl,hk⟩⟩
   ·rw[Ah hl,if_pos rfl];omega
   ·rw[Ah hl,if_pos rfl,if_neg (by omega)]
   ·intro x hx;rw[Ah hl,if_neg (by omega)]
  |none=>
   have hnm:=Hw hi
   simp only
   refine⟨⟨by rw[List.length_set,h.len],?_,⟨t++[Ya.getD n 0],by rw[ht,List.append_assoc],?_⟩,?_,?_⟩,?_,?_,?_⟩
   ·intro x hx;rw[Ah hl,if_neg (by omega)];exact h.hi x (by omega)
   ·intro o ho
    rcases List.mem_append.1 ho with h1 | h1
    ·exact⟨(hts o h1).1,by obtain⟨x,hx,e⟩:=(hts o h1).2;exact⟨x,by omega,e⟩⟩
    ·simp only[List.mem_singleton] at h1;subst h1;exact⟨by omega,n,by omega,rfl⟩
   ·rw[List.nodup_append]
    refine⟨h.nodup,by simp,fun a ha b hb=> ?_⟩
    simp only[List.mem_singleton] at hb;subst hb;intro e;subst e;exact hnm ha
   ·intro x hx
    rcases Nat.lt_or_ge x n with h1 | h1
    ·rw[Ah hl,if_neg (by omega)]
     refine⟨(h.val x h1).1,fun h2=> ?_⟩
     obtain⟨k,e1,e2⟩:=(h.val x h1).2 h2
     exact⟨k,e1,by rw[List.getElem?_append_left (List.getElem?_eq_some_iff.1 e2).1];exact e2⟩
    ·have:x=n:=by omega
     subst this
     rw[Ah hl,if_pos rfl]
     exact⟨fun h2=>absurd h2 h0,fun _=>⟨_,rfl,by simp⟩⟩
   ·rw[Ah hl,if_pos rfl];omega
   ·rw[Ah hl,if_pos rfl,if_pos rfl,List.length_append];simp
   ·intro x hx;rw[Ah hl,if_neg (by omega)]
theorem bP {Ya O:List Int} (hO:O.Nodup):∀ n:Nat,n≤Ya.length→tT Ya O n (Rc Ya (List.range n) (O,Ya))∧
 (∀ x,x < n→(Rc Ya (List.range n) (O,Ya)).2.getD x 0≤((Rc Ya (List.range x) (O,Ya)).1.length:Int)∧
  ((Rc Ya (List.range (x+1)) (O,Ya)).1.length:Int)=if (Rc Ya (List.range n) (O,Ya)).2.getD x 0=((Rc Ya (List.range x) (O,Ya)).1.length:Int) then ((Rc Ya (List.range x) (O,Ya)).1.length:Int)+1 else ((Rc Ya (List.range x) (O,Ya)).1.length:Int))
 |0,_=>⟨⟨rfl,fun x _=>rfl,⟨[],by simp[Rc]⟩,hO,by omega⟩,by omega⟩
 |n+1,hn=>by
  obtain⟨h1,h2⟩:=bP (Ya:=Ya) hO n (by omega)
  obtain⟨k1,k2,k3,k4⟩:=h1.next (by omega)
  have e:Rc Ya (List.range (n+1)) (O,Ya)=Uj n (Ya.getD n 0) (Rc Ya (List.range n) (O,Ya)):=by rw[List.range_succ,Jz];rfl
  refine⟨by rw[e];exact k1,fun x hx=> ?_⟩
  rcases Nat.lt_or_ge x n with h3 | h3
  ·rw[e,k4 x h3];exact h2 x h3
  ·have:x=n:=by omega
   subst this
   rw[e]
   exact⟨k2,k3⟩
structure nH (D:List Int) (O:List Int) (o:Int) (e:List ke):Prop where
 ex:∃ row,e=Re row∧∀ x,x < 256→((Ja D o.toNat).getD x 0 < 0→row.getD x 0=(Ja D o.toNat).getD x 0)∧
  (0≤(Ja D o.toNat).getD x 0→∃ k:Nat,row.getD x 0=(k:Int)∧O[k]? =some ((Ja D o.toNat).getD x 0))
theorem nH.mono {D O:List Int} {o:Int} {e:List ke} (h:nH D O o e) (t:List Int):nH D (O++t) o e:=by
 obtain⟨row,h1,h2⟩:=h.ex
 refine⟨row,h1,fun x hx=>⟨(h2 x hx).1,fun h0=> ?_⟩⟩
 obtain⟨k,h3,h4⟩:=(h2 x hx).2 h0
 exact⟨k,h3,by rw[List.getElem?_append_left (List.getElem?_eq_some_iff.1 h4).1];exact h4⟩
def eE:Int→Int→List (List ke)→Prop
 |_,_,[]=>True
 |m,i,e::l=>i < m∧ju m e∧eE (xx m e) (i+1) l
def ND (m:Int) (l:List (List ke)):Int:=l.foldl xx m
theorem ry:∀ {m i:Int} {l:List (List ke)} {e:List ke},eE m i l→i+l.length < ND m l→ju (ND m l) e→eE m i (l++[e])
 |m,i,[],e,_,h1,h2=>⟨by simpa[ND] using h1,h2,trivial⟩
 |m,i,a::l,e,h,h1,h2=>⟨h.1,h.2.1,ry h.2.2 (by simp only[List.length_cons] at h1;simp only[ND,List.foldl_cons] at h1;simp only[ND];omega) h2⟩
theorem LK (m:Int) (l:List (List ke)) (e:List ke):ND m (l++[e])=xx (ND m l) e:=by
 unfold ND;rw[List.foldl_append];rfl
structure Lm (D:List Int) (n:Nat) (J:Int→Prop) (O:List Int) (l:List (List ke)):Prop where
 ord:ir n O
 first:O[0]? =some 0
 le:l.length≤O.length
 rows:∀ (k:Nat) o e,O[k]? =some o→l[k]? =some e→nH D O o e
 met:ND 1 l=O.length
 AT:eE 1 0 l
 all:∀ o∈O,J o
 RT:∀ e∈l,∀ x∈e,x.to < O.length
section
variable {D:List Int} {n:Nat} {J:Int→Prop} (hD:D.length=n * 256) (cD:∀ c∈D,c < n)
 (hJ:∀ o,J o→0≤o→o < n→∀ x,x < 256→0≤(Ja D o.toNat).getD x 0→J ((Ja D o.toNat).getD x 0))
include hD cD hJ
theorem Lm.next {O:List Int} {l:List (List ke)} (h:Lm D n J O l) {o:Int} (ho:O[l.length]? =some o):
 Lm D n J (ig D o O).1 (l++[Re (ig D o O).2]):=by
 have hoO:=List.mem_of_getElem? ho
 have hb:=h.ord.2 o hoO
 have hlt:=(List.getElem?_eq_some_iff.1 ho).1
 have hrl:(Ja D o.toNat).length=256:=sg hD (by omega)
 obtain⟨k1,k2⟩:=bP (Ya:=Ja D o.toNat) h.ord.1 256 (by omega)
 obtain⟨t,ht,hts⟩:=k1.ext
 unfold ig
 have hm:=vC (row:=(Rc (Ja D o.toNat) (List.range 256) (O,Ja D o.toNat)).2) (g:=fun x=>((Rc (Ja D o.toNat) (List.range x) (O,Ja D o.toNat)).1.length:Int)) (fun x=>by omega) 256 (fun x hx=>(k2 x hx).1) (fun x hx=>(k2 x hx).2)
 generalize hr:Rc (Ja D o.toNat) (List.range 256) (O,Ja D o.toNat)=r at *
 obtain⟨m1,m2,m3⟩:=hm
 have hg0:((Rc (Ja D o.toNat) (List.range 0) (O,Ja D o.toNat)).1.length:Int)=O.length:=rfl
 simp only[hg0] at m1 m2
 have e1:Ld r.2 (List.range 256) []=Re r.2:=rfl
 rw[e1] at m1 m2 m3
 have hval:nH D r.1 o (Re r.2):=⟨r.2,rfl,fun x hx=>k1.val x hx⟩
 have hm':=h.met
 have hget:∀ x,x < 256→(Ja D o.toNat).getD x 0 < n:=by
  intro x hx
  rw[List.getD_eq_getElem?_getD,List.getElem?_eq_getElem (by omega)]
  have:=List.getElem_mem (l:=Ja D o.toNat) (n:=x) (by omega)
  exact cD _ (by unfold Ja at this;exact List.mem_of_mem_drop (List.mem_of_mem_take this))
 refine⟨⟨k1.nodup,?_⟩,?_,?_,?_,?_,?_,?_,?_⟩
 ·intro o' ho'
  rw[ht] at ho'
  rcases List.mem_append.1 ho' with h1 | h1
  ·exact h.ord.2 o' h1
  ·obtain⟨h2,x,hx,rfl⟩:=hts o' h1;exact⟨h2,hget x hx⟩
 ·rw[ht,List.getElem?_append_left (by omega)];exact h.first
 ·rw[ht];simp;omega
 ·intro k o' e h1 h2
  rcases Nat.lt_or_ge k l.length with h3 | h3
  ·rw[List.getElem?_append_left h3] at h2
   rw[ht,List.getElem?_append_left (by omega)] at h1
   rw[ht];exact (h.rows k o' e h1 h2).mono t
  ·have h4:=(List.getElem?_eq_some_iff.1 h2).1
   have:k=l.length:=by simp at h4;omega
   subst this
   rw[List.getElem?_append_right (Nat.le_refl _)] at h2
   simp at h2;subst h2
   rw[ht,List.getElem?_append_left (by omega),ho] at h1
   injection h1 with h1;subst h1;exact hval
 ·rw[LK,hm',m1]
 ·exact ry h.AT (by rw[hm'];omega) (by rw[hm'];exact m2)
 ·intro o' ho'
  rw[ht] at ho'
  rcases List.mem_append.1 ho' with h1 | h1
  ·exact h.all o' h1
  ·obtain⟨h2,x,hx,rfl⟩:=hts o' h1;exact hJ o (h.all o hoO) hb.1 hb.2 x hx h2
 ·intro e he x hx
  rcases List.mem_append.1 he with h1 | h1
  ·have:=h.RT e h1 x hx;rw[ht,List.length_append];omega
  ·simp only[List.mem_singleton] at h1;subst h1;exact m3 x hx
theorem Lm.go:∀ (f:Nat) (O:List Int) (l:List (List ke)),Lm D n J O l→n≤l.length+f→Lm D n J (qh D f (O,l)).1 (qh D f (O,l)).2∧(qh D f (O,l)).1.length=(qh D f (O,l)).2.length
 |0,O,l,h,hf=>⟨h,by have:=h.ord.len;have:=h.le;show O.length=l.length;omega⟩
 |f+1,O,l,h,hf=>by
  cases ho:O[l.length]? with
  |none=>
   rw[fq (r:=(O,l)) ho]
   have:=List.getElem?_eq_none_iff.1 ho
   exact⟨h,by have:=h.le;show O.length=l.length;omega⟩
  |some o=>
   rw[Zr (r:=(O,l)) ho]
   exact Lm.go f _ _ (h.next hD cD hJ ho) (by simp;omega)
theorem AQ (hn:n≤64) (h0:0 < n) (hJ0:J 0):∃ O,Lm D n J O (Hm D)∧O.length=(Hm D).length:=by
 have h:Lm D n J [0] []:=⟨⟨by simp,by simp;omega⟩,rfl,by simp,by simp,rfl,trivial,by simpa using hJ0,by simp⟩
 have:=Lm.go hD cD hJ 64 [0] [] h (by simp;omega)
 exact⟨_,this.1,this.2⟩
end
end Go.AM.B1
namespace Go.AM.B1
open Go.AM Go.AM.So
structure nR (ss:List ec) (sets:List Al) (C:List (List Int)) (O:List Int) (l:List (List ke)):Prop where
 ok:ue ss
 pre:Sj ss
 W:jj ss sets C
 hl:C.length=sets.length
 told:Lm (bg C.length C.flatten).C C.length (fun o=>∃ j,j < C.length∧o=co C j) O l
 len:O.length=l.length
 pos:0 < C.length
 le:C.length≤64
theorem RD (C:List (List Int)):co C 0=0:=by unfold co;rw[if_pos rfl]
section
variable {ss:List ec} {sets:List Al} {C:List (List Int)} (W:jj ss sets C) (hl:C.length=sets.length)
include W hl
theorem pJ {j x:Nat} (hj:j < C.length) (hx:x < 256):Jw C j x=if 0≤aj C j x then co C (aj C j x).toNat else aj C j x:=by
 unfold Jw
 split
 ·next h=>
  have:=W.oz hl hj hx h
  unfold co;rw[if_neg (by omega)]
 ·rfl
end
theorem sJ {ss:List ec} {l:List (List ke)} (ta:ue ss) (hpre:Sj ss) (h:Hk ss=some l):∃ sets C O,nR ss sets C O l:=by
 unfold Hk at h
 rw[Option.map_eq_some_iff] at h
 obtain⟨⟨sets,C⟩,hw,rfl⟩:=h
 obtain⟨W,hl⟩:=fL ta.len (fun s hs=>(ta.Yx s hs).lo) hw
 have W:jj ss sets C:=W
 have hl:C.length=sets.length:=hl
 have hm:=W.vD hl
 have h0:0 < C.length:=by rw[hl];exact (List.getElem?_eq_some_iff.1 W.first).1
 have h64:C.length≤64:=by rw[hl];exact W.ok.1
 have hrow:∀ j x,j < C.length→x < 256→(Ja (bg C.length C.flatten).C (co C j).toNat).getD x 0=Jw C j x:=fun j x hj hx=>pO W hl hj hx
 obtain⟨O,h1,h2⟩:=AQ (n:=C.length) (J:=fun o=>∃ j,j < C.length∧o=co C j) (D:=(bg C.length C.flatten).C) hm.hC (by
  intro c hc
  obtain⟨p,hp,rfl⟩:=List.getElem_of_mem hc
  have hpl:p < C.length * 256:=by rw[← hm.hC];exact hp
  have e1:(bg C.length C.flatten).C[p]=(Ja (bg C.length C.flatten).C (p / 256)).getD (p % 256) 0:=by
   rw[List.getD_eq_getElem?_getD,zp (Nat.mod_lt _ (by omega))]
   have:p / 256 * 256+p % 256=p:=by omega
   rw[this,List.getElem?_eq_getElem hp];rfl
  rw[e1,W.RK hl (by omega) (Nat.mod_lt _ (by omega))]
  have hb:=W.bound hl (k:=p / 256) (x:=p % 256) (by omega) (Nat.mod_lt _ (by omega))
  unfold Jw
  split
  ·exact (hm.Sr (j:=(aj C (p / 256) (p % 256)).toNat) (by omega)).2.1
  ·exact hb.2) (by
  rintro o ⟨j,hj,rfl⟩ _ _ x hx h3
  rw[hrow j x hj hx,pJ W hl hj hx] at h3 ⊢
  have hb:=W.bound hl hj hx
  split at h3
  ·next h4=>rw[if_pos h4];exact⟨_,by omega,rfl⟩
  ·omega) h64 h0 ⟨0,h0,(RD C).symm⟩
 exact⟨sets,C,O,ta,hpre,W,hl,h1,h2,h0,h64⟩
section
variable {ss:List ec} {sets:List Al} {C:List (List Int)} {O:List Int} {l:List (List ke)}
theorem nR.first (h:nR ss sets C O l):O[0]? =some (co C 0):=by rw[RD];exact h.told.first
theorem nR.row (h:nR ss sets C O l) {k j:Nat} (hk:O[k]? =some (co C j)) (hj:j < C.length):∃ row,l[k]? =some (Re row)∧
 ∀ x,x < 256→(aj C j x < 0→row.getD x 0=aj C j x)∧(0≤aj C j x→∃ k':Nat,row.getD x 0=(k':Int)∧0 < k'∧O[k']? =some (co C (aj C j x).toNat)):=by
 have hkl:=(List.getElem?_eq_some_iff.1 hk).1
 have hle:=h.len
 have he:l[k]? =some l[k]:=List.getElem?_eq_getElem (by omega)
 obtain⟨row,h1,h2⟩:=(h.told.rows k _ _ hk he).ex
 refine⟨row,by rw[he,h1],fun x hx=> ?_⟩
 have h3:=h2 x hx
 rw[pO h.W h.hl hj hx,pJ h.W h.hl hj hx] at h3
 constructor
 ·intro h4
  rw[if_neg (by omega)] at h3
  exact h3.1 h4
 ·intro h4
  rw[if_pos h4] at h3
  have hd:=h.W.oz h.hl hj hx h4
  have hb:=h.W.bound h.hl hj hx
  have hc:0≤co C (aj C j x).toNat:=by
   unfold co;split
   ·omega
   ·exact ((h.W.vD h.hl).Sr (by omega)).1
  obtain⟨k',e1,e2⟩:=h3.2 hc
  refine⟨k',e1,?_,e2⟩
  rcases Nat.eq_zero_or_pos k' with rfl | h5
  ·rw[h.first,RD] at e2
   injection e2 with e2
   unfold co at e2
   rw[if_neg (by omega)] at e2
   exact absurd e2.symm (iR h.ok h.pre h.W h.hl (by omega) (by omega))
  ·exact h5
end
end Go.AM.B1
namespace Go.AM.B1
open Go.AM Go.AM.So
section
variable {ss:List ec} {sets:List Al} {C:List (List Int)} {O:List Int} {l:List (List ke)} (h:nR ss sets C O l)
include h
theorem nR.step {k j:Nat} (hk:O[k]? =some (co C j)) (hj:j < C.length) {x:Nat} (hx:x < 256):
 (aj C j x= -2∧ee l (k:Int) (x:Int)=(0,false))∨(aj C j x= -1∧ee l (k:Int) (x:Int)=(-1,true))∨
 (0≤aj C j x∧aj C j x < C.length∧∃ k':Nat,ee l (k:Int) (x:Int)=((k':Int),true)∧0 < k'∧O[k']? =some (co C (aj C j x).toNat)):=by
 obtain⟨row,h1,h2⟩:=h.row hk hj
 have h3:=(tw row).step x hx
 obtain⟨h4,h5⟩:=h2 x hx
 have hb:=h.W.bound h.hl hj hx
 have hs:ee l (k:Int) (x:Int)=match Se (x:Int) (Re row) with
  |some t=>(t,true)
  |none=>(0,false):=by
  unfold ee
  rw[if_neg (by omega),Int.toNat_natCast,h1] <;> rfl
 rw[h3] at hs
 by_cases c0:0≤aj C j x
 ·obtain⟨k',e1,e2,e3⟩:=h5 c0
  rw[e1,if_neg (by omega)] at hs
  exact .inr (.inr ⟨c0,hb.2,k',hs,e2,e3⟩)
 ·have h6:=h4 (by omega)
  rw[h6] at hs
  by_cases c1:aj C j x= -2
  ·rw[if_pos c1] at hs;exact .inl ⟨c1,hs⟩
  ·have c2:aj C j x= -1:=by omega
   rw[if_neg c1,c2] at hs;exact .inr (.inl ⟨c2,hs⟩)
theorem nR.match:∀ (bs:List Nat) (i k j:Nat),Bytes bs→O[k]? =some (co C j)→j < C.length→
 ∃ m:Nat,m≤bs.length∧((dm l i (k:Int) (bs.map fun (n:Nat)=>(n:Int))=(((i+m:Nat):Int),1)∧0 < m∧runT C j (bs.take m)= -1)∨
  (dm l i (k:Int) (bs.map fun (n:Nat)=>(n:Int))=(((i+m:Nat):Int),2)∧m=bs.length∧0≤runT C j bs)∨
  (dm l i (k:Int) (bs.map fun (n:Nat)=>(n:Int))=(((i+m:Nat):Int),3)∧m < bs.length∧0≤runT C j (bs.take m)∧runT C j (bs.take (m+1))= -2))
 | [],i,k,j,_,hk,hj=>⟨0,by simp,.inr (.inl ⟨rfl,rfl,Int.natCast_nonneg j⟩)⟩
 |x::bs,i,k,j,hb,hk,hj=>by
  have hx:x < 256:=hb x (by simp)
  have hbs:Bytes bs:=fun y hy=>hb y (by simp[hy])
  have hj0:¬((j:Int) < 0):=by omega
  rw[List.map_cons,dm]
  rcases h.step hk hj hx with⟨h1,h2⟩ | ⟨h1,h2⟩ | ⟨h1,h1',k',h2,h3,h4⟩
  ·rw[h2]
   refine⟨0,by simp,.inr (.inr ⟨rfl,by simp,Int.natCast_nonneg j,?_⟩)⟩
   show runT C j [x]= -2
   rw[runT,if_neg hj0,Int.toNat_natCast,h1];rfl
  ·rw[h2]
   refine⟨1,by simp,.inl ⟨rfl,by omega,?_⟩⟩
   show runT C j [x]= -1
   rw[runT,if_neg hj0,Int.toNat_natCast,h1];rfl
  ·rw[h2]
   simp only[Bool.true_eq_false,if_false]
   rw[if_neg (by omega)]
   obtain⟨m,hm,hc⟩:=nR.match bs (i+1) k' (aj C j x).toNat hbs h4 (by omega)
   have hr:∀ w,runT C j (x::w)=runT C ((aj C j x).toNat:Nat) w:=by
    intro w
    rw[runT,if_neg hj0,Int.toNat_natCast,Int.toNat_of_nonneg h1]
   have he:i+1+m=i+(m+1):=by omega
   rw[he] at hc
   refine⟨m+1,by simp;omega,?_⟩
   rcases hc with⟨c1,c2,c3⟩ | ⟨c1,c2,c3⟩ | ⟨c1,c2,c3,c4⟩
   ·exact .inl ⟨c1,by omega,by rw[List.take_succ_cons,hr];exact c3⟩
   ·exact .inr (.inl ⟨c1,by simp[c2],by rw[hr];exact c3⟩)
   ·exact .inr (.inr ⟨c1,by simp;omega,by rw[List.take_succ_cons,hr];exact c3,by rw[List.take_succ_cons,hr];exact c4⟩)
end
theorem XK {ss:List ec} {l:List (List ke)} (ta:ue ss) (hpre:Sj ss) (ha:Hk ss=some l) (bs:List Nat) (hb:Bytes bs):
 ∃ m:Nat,m≤bs.length∧((dm l 0 0 (bs.map fun (n:Nat)=>(n:Int))=((m:Int),1)∧∃ s∈ss,Full s (bs.take m))∨
  (dm l 0 0 (bs.map fun (n:Nat)=>(n:Int))=((m:Int),2)∧m=bs.length∧(bs=[]∨∃ s∈ss,Mq s bs)∧∀ s∈ss,¬Full s bs)∨
  (dm l 0 0 (bs.map fun (n:Nat)=>(n:Int))=((m:Int),3)∧m < bs.length∧(bs.take m=[]∨∃ s∈ss,Mq s (bs.take m))∧(∀ s∈ss,¬Full s (bs.take m))∧∀ s∈ss,¬Mq s (bs.take (m+1)))):=by
 obtain⟨sets,C,O,h⟩:=sJ ta hpre ha
 obtain⟨m,hm,hc⟩:=h.match bs 0 0 0 hb h.first h.pos
 have hbt:∀ m,Bytes (bs.take m):=fun m x hx=>hb x (List.mem_of_mem_take hx)
 have hsem:∀ w,Bytes w→CR ss sets w (runT C 0 w):=fun w hw=>jv ta hpre h.W h.hl _ w rfl hw
 rw[Nat.zero_add] at hc
 refine⟨m,hm,?_⟩
 rcases hc with⟨c1,c2,c3⟩ | ⟨c1,c2,c3⟩ | ⟨c1,c2,c3,c4⟩
 ·refine .inl ⟨c1,?_⟩
  rcases hsem _ (hbt m) with⟨_,q⟩ | ⟨q,_⟩ | ⟨q,_⟩
  ·exact q
  ·have:runT C ((0:Nat):Int) (bs.take m)= -1:=c3
   rw[show ((0:Nat):Int)=0 from rfl] at this;omega
  ·have:runT C ((0:Nat):Int) (bs.take m)= -1:=c3
   rw[show ((0:Nat):Int)=0 from rfl] at this;omega
 ·refine .inr (.inl ⟨c1,c2,?_⟩)
  rw[show ((0:Nat):Int)=0 from rfl] at c3
  rcases hsem _ hb with⟨q,_⟩ | ⟨_,_,q1,q2⟩ | ⟨q,_⟩
  ·omega
  ·refine⟨?_,q2⟩
   rcases q1 with q1 | ⟨s,h1,h2,_⟩
   ·exact .inl q1
   ·exact .inr ⟨s,h1,h2⟩
  ·omega
 ·rw[show ((0:Nat):Int)=0 from rfl] at c3 c4
  refine .inr (.inr ⟨c1,c2,?_⟩)
  have h4:∀ s∈ss,¬Mq s (bs.take (m+1)):=by
   rcases hsem _ (hbt (m+1)) with⟨q,_⟩ | ⟨q,_⟩ | ⟨_,_,q⟩
   ·omega
   ·omega
   ·exact q
  rcases hsem _ (hbt m) with⟨q,_⟩ | ⟨_,_,q1,q2⟩ | ⟨q,_⟩
  ·omega
  ·refine⟨?_,q2,h4⟩
   rcases q1 with q1 | ⟨s,h1,h2,_⟩
   ·exact .inl q1
   ·exact .inr ⟨s,h1,h2⟩
  ·omega
end Go.AM.B1
namespace Go.AM.B1
open Go.AM Go.AM.So
theorem FK {row:List Int} {e:ke} (he:e∈Re row):0≤e.lo∧e.lo≤e.hi∧e.hi < 256∧e.to≠ -2∧e.to=row.getD e.lo.toNat 0:=by
 have h:=tw row
 obtain⟨h1,h2,h3,h4⟩:=h.gw e he
 have hs:=h.step e.lo.toNat (by omega)
 rw[Int.toNat_of_nonneg h1,NA h.ord e he (Int.le_refl _) h2] at hs
 refine⟨h1,h2,h3,h4,?_⟩
 split at hs
 ·cases hs
 ·injection hs
theorem sG {ss:List ec} {l:List (List ke)} (ta:ue ss) (hpre:Sj ss) (h:Hk ss=some l):∀ e∈l,uk e:=by
 obtain⟨sets,C,O,L⟩:=sJ ta hpre h
 intro e he
 obtain⟨k,hk,rfl⟩:=List.getElem_of_mem he
 have hkO:k < O.length:=by rw[L.len];exact hk
 obtain⟨j,hj,ho⟩:=L.told.all O[k] (List.getElem_mem hkO)
 obtain⟨row,h1,h2⟩:=L.row (k:=k) (j:=j) (by rw[List.getElem?_eq_getElem hkO,ho]) hj
 rw[List.getElem?_eq_getElem hk] at h1
 injection h1 with h1
 have htos:=L.told.RT _ (List.getElem_mem hk)
 have h64:=(tC h).1
 have hlen:=L.len
 rw[h1] at htos ⊢
 refine⟨fun x hx=> ?_,(tw row).ord⟩
 obtain⟨e1,e2,e3,e4,e5⟩:=FK hx
 have:=htos x hx
 refine⟨e1,e2,e3,?_,by omega⟩
 obtain⟨f1,f2⟩:=h2 x.lo.toNat (by omega)
 by_cases hc:aj C j x.lo.toNat < 0
 ·have hb:=L.W.bound L.hl hj (x:=x.lo.toNat) (by omega)
  rw[f1 hc] at e5
  omega
 ·obtain⟨k',g1,_⟩:=f2 (by omega)
  rw[g1] at e5
  omega
def ID (r:List Int):PV:= .agg (r.map i64)
theorem ez {sz:Nat}:∀ {D:List (List PV)},(∀ r∈D,r.length=sz)→chunk sz true D.length D.flatten=D.map .agg
 | [],_=>rfl
 |r::D,h=>by
  have hr:=h r (by simp)
  rw[List.length_cons,chunk,if_pos rfl,List.flatten_cons,List.take_left' hr,List.drop_left' hr,ez fun x hx=>h x (by simp[hx])];rfl
theorem Vu:∀ {D:List (List Int)},(∀ r∈D,r.length=3)→Df 3 D.length D.flatten=D
 | [],_=>rfl
 |r::D,h=>by
  have hr:=h r (by simp)
  rw[List.length_cons,Df,List.flatten_cons,List.take_left' hr,List.drop_left' hr,Vu fun x hx=>h x (by simp[hx])]
def ch (ss:List ec):List (List Int):=(Ol 3 0 (Ig ss ss.length).toArray).toList
theorem Rm (ss:List ec):(ch ss).Perm (Ig ss ss.length):=(Uu 3 0 (Ig ss ss.length).toArray).2.1
theorem Bw {ss:List ec} {r:List Int} (h:r∈ch ss):r.length=3:=qt ((Rm ss).mem_iff.1 h)
theorem KC (ss:List ec):(ch ss).length=ss.length:=by rw[(Rm ss).length_eq,Bm]
structure sr (T:PV) (ss:List ec) (l:List (List ke)):Prop where
 ex:∃ S' NX DG RW,T= .rp [S',jm l,NX,DG,RW,i64 (Eg ss)] 0∧Bh 2 S' (ss.map Cd)∧Bh 256 NX (l.map Ek)∧Bh 1 DG (ss.map fun s=>Sg s.parts)∧Bh 3 RW ((ch ss).map ID)
section
variable {S:PV} {ss:List ec} {es:List PV} (hS:Jd S ss es)
include hS
end
end Go.AM.B1
namespace Go.AM.B1
open Go.AM Go.AM.So
theorem eA (l:List Int) (n:Nat):(de l).all (AV.Wc n deep)=true:=by
 rw[List.all_eq_true];intro x hx
 obtain⟨y,_,rfl⟩:=List.mem_map.1 hx
 rfl
theorem JN {V S':PV} {y:Bool} {a b:Int} (nl:Bool) (ds:List PV) (D:List (List Int)) (fl:Nat) (nr:Bool) (m:Int):
 Kc (Qt (.box [.pv V]) (.box [.pv (.bool y),.pv (i64 a),.pv (i64 b)]) (.tok 256 0 true) (.pv S') (.pv V) (.uq 3 true 256 []) nl ds D fl nr m):=by
 intro n hn o ho
 have hn:6≤n:=hn
 simp only[Qt,List.mem_cons,List.not_mem_nil,or_false] at ho
 rcases ho with rfl | rfl | rfl | rfl | rfl | rfl
 ·exact bn n [V]
 ·exact bn n [.bool y,i64 a,i64 b]
 ·simp only[pa,Wa,Ha,oA (show 3 < n by omega),oA (show 4 < n by omega),jJ (show 5 < n by omega),Option.bind_some,Option.map_some]
 ·rfl
 ·rfl
 ·simp only[pa,eA,if_true]
theorem zO {V S':PV} {y:Bool} {a b m:Int} {nl:Bool} {ds:List PV} {D:List (List Int)} {fl k:Nat} {nr:Bool} (nx:Bool) (es:List PV):
 Kc (Cr (.box [.pv V]) (.box [.pv (.bool y),.pv (i64 a),.pv (i64 b)]) (.tok 1 k nl) (.seq 3 true (de D.flatten) fl nr) (.pv S') (.pv V) (.uq 4 nl 1 ds) (.own 5 k) (.pv (i64 m)) nx es):=by
 intro n hn o ho
 have hn:6≤n:=hn
 simp only[Cr,List.mem_cons,List.not_mem_nil,or_false] at ho
 rcases ho with rfl | rfl | rfl | rfl | rfl | rfl
 ·exact bn n [V]
 ·exact bn n [.bool y,i64 a,i64 b]
 ·simp only[pa,Wa,Ha,oA (show 3 < n by omega),oA (show 4 < n by omega),jJ (show 5 < n by omega),Option.bind_some,Option.map_some]
 ·rfl
 ·rfl
 ·simp only[pa,eA,if_true]
theorem aO {V S':PV} {o0 o1:aa} {m:Int} {nl nr nx:Bool} {ds es:List PV} {D:List (List Int)} {fl k:Nat} (hk:D.length=k) (hD:∀ r∈D,r.length=3) (h1:nl=true→ds=[]) (h2:nr=true→D=[]) (h3:nx=true→es=[]):
 ∃ NX DG RW,Bb (Cr o0 o1 (.tok 1 k nl) (.seq 3 true (de D.flatten) fl nr) (.pv S') (.pv V) (.uq 4 nl 1 ds) (.own 5 k) (.pv (i64 m)) nx es) 5 (.ptr 2 0)=some (.rp [S',V,NX,DG,RW,i64 m] 0)∧
  Bh 256 NX es∧Bh 1 DG ds∧Bh 3 RW (D.map ID):=by
 refine⟨if nx then .qa else .lit 256 es,if nl then .qa else .lit 1 ds,if nr then .qa else .lit 3 (D.map ID),?_,?_,?_,?_⟩
 ·have hc:k * 3=(de D.flatten).length∧(true||(3:Nat)==1)=true:=⟨by rw[List.length_map,Ht hD,hk],rfl⟩
  have hm:Wa (Bb (Cr o0 o1 (.tok 1 k nl) (.seq 3 true (de D.flatten) fl nr) (.pv S') (.pv V) (.uq 4 nl 1 ds) (.own 5 k) (.pv (i64 m)) nx es) 3) (de D.flatten)=some (D.flatten.map i64):=by
   generalize Cr o0 o1 (.tok 1 k nl) (.seq 3 true (de D.flatten) fl nr) (.pv S') (.pv V) (.uq 4 nl 1 ds) (.own 5 k) (.pv (i64 m)) nx es=H
   generalize D.flatten=F
   induction F with
   |nil=>rfl
   |cons x F ih=>
    show Wa (Bb H 3) (.pv (i64 x)::de F)=_
    rw[Wa,ih];rfl
  have hch:chunk 3 true k (D.flatten.map i64)=D.map ID:=by
   have:=ez (sz:=3) (D:=D.map fun r=>r.map i64) (by
    intro r hr
    obtain⟨q,hq,rfl⟩:=List.mem_map.1 hr
    rw[List.length_map,hD q hq])
   rw[List.length_map,List.map_map,←List.map_flatten,hk] at this
   exact this
  have h5:(Cr o0 o1 (.tok 1 k nl) (.seq 3 true (de D.flatten) fl nr) (.pv S') (.pv V) (.uq 4 nl 1 ds) (.own 5 k) (.pv (i64 m)) nx es)[5]? =some (.seq 3 true (de D.flatten) fl nr):=rfl
  have hb:(Cr o0 o1 (.tok 1 k nl) (.seq 3 true (de D.flatten) fl nr) (.pv S') (.pv V) (.uq 4 nl 1 ds) (.own 5 k) (.pv (i64 m)) nx es)[2]? =some (.box [.pv S',.pv V,.uq 3 nx 256 es,.uq 4 nl 1 ds,.own 5 k,.pv (i64 m)]):=rfl
  have ho:Bb (Cr o0 o1 (.tok 1 k nl) (.seq 3 true (de D.flatten) fl nr) (.pv S') (.pv V) (.uq 4 nl 1 ds) (.own 5 k) (.pv (i64 m)) nx es) 4 (.own 5 k)=some (if nr then .qa else .lit 3 (D.map ID)):=by
   simp only[Bb,h5,if_pos hc,hm,Option.map_some,hch]
   cases nr <;> rfl
  generalize Cr o0 o1 (.tok 1 k nl) (.seq 3 true (de D.flatten) fl nr) (.pv S') (.pv V) (.uq 4 nl 1 ds) (.own 5 k) (.pv (i64 m)) nx es=H at *
  show (match H[2]? with | some (.box cells)=>(Wa (Bb H 4) cells).map fun ps=>PV.rp ps 0 | _=>none)=_
  rw[hb]
  have hv:∀ p:PV,Bb H 4 (.pv p)=some p:=fun p=>rfl
  have hu:∀ id nl sz es,Bb H 4 (.uq id nl sz es)=some (if nl then .qa else .lit sz es):=fun _ _ _ _=>rfl
  simp only[Wa,hv,hu,ho,Option.bind_some,Option.map_some]
 ·cases nx with
  |false=>exact .inr rfl
  |true=>exact .inl ⟨rfl,h3 rfl⟩
 ·cases nl with
  |false=>exact .inr rfl
  |true=>exact .inl ⟨rfl,h1 rfl⟩
 ·cases nr with
  |false=>exact .inr rfl
  |true=>exact .inl ⟨rfl,by rw[h2 rfl];rfl⟩
theorem CO {ss:List ec} (h32:ss.length≤32) {H:List aa} {fl:Nat} {nr:Bool} (hH:H[5]? =some (.seq 3 true (de (Ig ss ss.length).flatten) fl nr)):
 Gf Xn (fun _=>none) 8 34 [.own 5 ss.length,.mi 36 []] H=some (.pv (.dc []),H.set 5 (.seq 3 true (de (ch ss).flatten) (ss.length * 3) nr)):=by
 have e34:∀ (d:Nat) args H,Gf Xn (fun _=>none) (d+1) 34 args H=mv 3 0 36 args H:=fun d args H=>rfl
 rw[e34 7]
 have hl:(de (Ig ss ss.length).flatten).length=ss.length * 3:=by rw[List.length_map,Ht fun r hr=>qt hr,Bm]
 simp only[mv,hH]
 rw[if_pos ⟨trivial,trivial,hl.symm,by omega⟩,pq,Option.map_some,hl]
 have:=Vu (D:=Ig ss ss.length) fun r hr=>qt hr
 rw[Bm] at this
 rw[this];rfl
theorem zI {S:PV} {ss:List ec} {es:List PV} (hS:Jd S ss es) (ta:ue ss) (hpre:Sj ss) {l:List (List ke)} (ha:Hk ss=some l) {a b:Int} (hi:zi [.agg [S]]=some (.dc [.agg [.bool true,i64 a,i64 b],i64 0])):
 ∃ T,tg [.agg [S]]=some (.dc [T,i64 0])∧sr T ss l:=by
 have hS1:(AV.pv S).one=true:=by rcases hS.is with⟨h,_⟩ | h <;> rw[h] <;> rfl
 have hb:=(qL hS).2.2.2 ta hpre l ha
 obtain⟨S',hcp,hS'⟩:=dA hS ta
 have hS'1:(AV.pv S').one=true:=by rcases hS' with⟨h,_⟩ | h <;> rw[h] <;> rfl
 have lS:=hS.Mc
 obtain⟨k64,k256⟩:=tC ha
 have hst:=QH k64 k256
 have hV1:(AV.pv (jm l)).one=true:=rfl
 have hVl:Bh 1 (jm l) (l.map sf):= .inr rfl
 have lV:=hVl.len
 rw[List.length_map] at lV
 have heo:=sG ta hpre ha
 obtain⟨V,hVe⟩:∃ V,V=jm l:=⟨_,rfl⟩
 rw[← hVe] at hb hst hV1 hVl lV
 have st:Pa [.box [.pv .qa]] 1 (.ptr 0 0) (.pv (.agg [V]))=some [.box [.pv V]]:=by simp[Pa,AV.cells,PV.cells,hV1,oa]
 have st2:Pa [.box [.pv V],.box [.pv (.bool false),.pv (i64 0),.pv (i64 0)]] 3 (.ptr 1 0) (.pv (.agg [.bool true,i64 a,i64 b]))=some [.box [.pv V],.box [.pv (.bool true),.pv (i64 a),.pv (i64 b)]]:=rfl
 have p2:∀ a b c d,place [a,.box [b,c,d]] 0 (.ptr 1 0)=some (.ptr 1 0):=fun a b c d=>rfl
 have l2:∀ a b c d,na [a,.box [b,c,d]] false 1 (.ptr 1 0)=some b:=fun a b c d=>rfl
 have l3:na [.box [.pv V],.box [.pv (.bool true),.pv (i64 a),.pv (i64 b)]] true 1 (.ptr 0 0)=some (.pv (.agg [V])):=rfl
 have z0:((0:Int)==0)=true:=rfl
 have z1:((0:Int) != 0)=false:=rfl
 have m1:oa [AV.pv PV.qa,.pv .qa,.pv .qa,.pv .qa,.pv .qa,.pv (.int .i64 0)] 0 [AV.pv S']=[.pv S',.pv .qa,.pv .qa,.pv .qa,.pv .qa,.pv (.int .i64 0)]:=rfl
 have m2:oa [AV.pv S',.pv .qa,.pv .qa,.pv .qa,.pv .qa,.pv (.int .i64 0)] 1 [AV.pv V]=[.pv S',.pv V,.pv .qa,.pv .qa,.pv .qa,.pv (.int .i64 0)]:=rfl
 have m3:Bc [AV.pv S',.pv V,.pv .qa,.pv .qa,.pv .qa,.pv (.int .i64 0)]=some [S',V,.qa,.qa,.qa,.int .i64 0]:=rfl
 have hz1:(0 < 256)=True:=by simp
 have hz2:(0 < 3)=True:=by simp
 have hz3:(0 < 1)=True:=by simp
 suffices key:me (fun r=>∃ T,r= .dc [T,i64 0]∧sr T ss l) (tg [.agg [S]]) by
  obtain⟨r,h1,T,rfl,h2⟩:=qd key
  exact⟨T,h1,h2⟩
 generalize hQ:(fun r=>∃ T,r=PV.dc [T,i64 0]∧_)=Q
 simp -implicitDefEqProofs only[tg,FG.eq_1,SX,sevalprocAttr,Rl,hS1,hV1,hS'1,NL,Dg,SL,hb,hi,st,st2,p2,l2,l3,z0,z1,hcp,m1,m2,m3,Uy,gf,hz1,hz2,hz3,lS]
 generalize hEE:(Tr.set _ 48 _:Tr)=E
 have q4:E.get 4= .ptr 0 0:=by rw[← hEE];simp[Tr.ba]
 have q8:E.get 8= .ptr 2 0:=by rw[← hEE];simp[Tr.ba]
 have q46:E.get 46= .pv S:=by rw[← hEE];simp[Tr.ba]
 have q47:E.get 47= .pv (i64 ss.length):=by rw[← hEE];simp[Tr.ba]
 have q48:E.get 48= .pv (i64 0):=by rw[← hEE];simp[Tr.ba]
 refine Xa (rP (call:=Gf Xn (fun _=>none) 8) (JN (V:=V) (S':=S') (y:=true) (a:=a) (b:=b)) hS ta q4 q8 q46 q47 q48) ?_
 rintro r ⟨_,E2,nl,nr,rfl,g4,g8,hnl,hnr⟩
 have hdl:(ss.map fun s=>Sg s.parts).length=ss.length:=by rw[List.length_map]
 have hrl:=Bm ss ss.length
 have hDl:=KC ss
 have p5:∀ d,place (Qt (.box [.pv V]) (.box [.pv (.bool true),.pv (i64 a),.pv (i64 b)]) (.tok 256 0 true) (.pv S') (.pv V) (.uq 3 true 256 []) nl (ss.map fun s=>Sg s.parts) (Ig ss ss.length) 0 nr (Eg ss)) d (.ptr 2 0)=some (.ptr 2 (0+d)):=fun d=>Le rfl d 0
 have l5:na (Qt (.box [.pv V]) (.box [.pv (.bool true),.pv (i64 a),.pv (i64 b)]) (.tok 256 0 true) (.pv S') (.pv V) (.uq 3 true 256 []) nl (ss.map fun s=>Sg s.parts) (Ig ss ss.length) 0 nr (Eg ss)) false 1 (.ptr 2 4)=some (.own 5 ss.length):=by
  rw[← hrl,Bm]
  show some (AV.own 5 (Ig ss ss.length).length)=_
  rw[hrl]
 have hsort:=CO ta.len (H:=Qt (.box [.pv V]) (.box [.pv (.bool true),.pv (i64 a),.pv (i64 b)]) (.tok 256 0 true) (.pv S') (.pv V) (.uq 3 true 256 []) nl (ss.map fun s=>Sg s.parts) (Ig ss ss.length) 0 nr (Eg ss)) rfl
 have hHT:(Qt (.box [.pv V]) (.box [.pv (.bool true),.pv (i64 a),.pv (i64 b)]) (.tok 256 0 true) (.pv S') (.pv V) (.uq 3 true 256 []) nl (ss.map fun s=>Sg s.parts) (Ig ss ss.length) 0 nr (Eg ss)).set 5 (.seq 3 true (de (ch ss).flatten) (ss.length * 3) nr)=Cr (.box [.pv V]) (.box [.pv (.bool true),.pv (i64 a),.pv (i64 b)]) (.tok 1 ss.length nl) (.seq 3 true (de (ch ss).flatten) (ss.length * 3) nr) (.pv S') (.pv V) (.uq 4 nl 1 (ss.map fun s=>Sg s.parts)) (.own 5 ss.length) (.pv (i64 (Eg ss))) true []:=by
  unfold Qt Cr
  rw[hdl,hrl];rfl
 rw[hHT] at hsort
 have p6:∀ d,place (Cr (.box [.pv V]) (.box [.pv (.bool true),.pv (i64 a),.pv (i64 b)]) (.tok 1 ss.length nl) (.seq 3 true (de (ch ss).flatten) (ss.length * 3) nr) (.pv S') (.pv V) (.uq 4 nl 1 (ss.map fun s=>Sg s.parts)) (.own 5 ss.length) (.pv (i64 (Eg ss))) true []) d (.ptr 0 0)=some (.ptr 0 (0+d)):=fun d=>Le rfl d 0
 have l6:na (Cr (.box [.pv V]) (.box [.pv (.bool true),.pv (i64 a),.pv (i64 b)]) (.tok 1 ss.length nl) (.seq 3 true (de (ch ss).flatten) (ss.length * 3) nr) (.pv S') (.pv V) (.uq 4 nl 1 (ss.map fun s=>Sg s.parts)) (.own 5 ss.length) (.pv (i64 (Eg ss))) true []) false 1 (.ptr 0 0)=some (.pv V):=rfl
 have hnx:=fun (E3:Tr) (r8:E3.get 8= .ptr 2 0) (r101:E3.get 101= .pv V) (r102:E3.get 102= .pv (i64 l.length)) (r103:E3.get 103= .pv (i64 0))=>
  BP (call:=Gf Xn (fun _=>none) 8) (zO (V:=V) (S':=S') (y:=true) (a:=a) (b:=b) (m:=Eg ss) (nl:=nl) (ds:=ss.map fun s=>Sg s.parts) (D:=ch ss) (fl:=ss.length * 3) (k:=ss.length) (nr:=nr)) hVl k64 k256 heo r8 r101 r102 r103
 obtain⟨NX,hNX⟩:∃ x,x=fun nx=>Cr (.box [.pv V]) (.box [.pv (.bool true),.pv (i64 a),.pv (i64 b)]) (.tok 1 ss.length nl) (.seq 3 true (de (ch ss).flatten) (ss.length * 3) nr) (.pv S') (.pv V) (.uq 4 nl 1 (ss.map fun s=>Sg s.parts)) (.own 5 ss.length) (.pv (i64 (Eg ss))) nx (l.map Ek):=⟨_,rfl⟩
 have hnx':=hnx
 generalize Qt (.box [.pv V]) (.box [.pv (.bool true),.pv (i64 a),.pv (i64 b)]) (.tok 256 0 true) (.pv S') (.pv V) (.uq 3 true 256 []) nl (ss.map fun s=>Sg s.parts) (Ig ss ss.length) 0 nr (Eg ss)=HS at *
 simp -implicitDefEqProofs only[SX,sevalprocAttr,g4,g8,p5,l5,hsort,p6,l6,lV]
 generalize hEE3:(Tr.set _ 103 _:Tr)=E3
 refine Xa (hnx E3 (by rw[← hEE3];simp[Tr.ba,g8]) (by rw[← hEE3];simp[Tr.ba]) (by rw[← hEE3];simp[Tr.ba]) (by rw[← hEE3];simp[Tr.ba])) ?_
 rintro r ⟨_,E4,nx,rfl,r8,hx⟩
 obtain⟨NX,DG,RW,t1,t2,t3,t4⟩:=aO (V:=V) (S':=S') (o0:= .box [.pv V]) (o1:= .box [.pv (.bool true),.pv (i64 a),.pv (i64 b)]) (m:=Eg ss) (nl:=nl) (nr:=nr) (nx:=nx) (ds:=ss.map fun s=>Sg s.parts) (es:=l.map Ek) (D:=ch ss) (fl:=ss.length * 3) (k:=ss.length) hDl (fun r hr=>Bw hr) (fun h=>by rw[hnl h];rfl) (fun h=>by have:=hDl;rw[hnr h] at this ⊢;exact List.eq_nil_of_length_eq_zero this) (fun h=>by rw[hx h];rfl)
 generalize Cr (.box [.pv V]) (.box [.pv (.bool true),.pv (i64 a),.pv (i64 b)]) (.tok 1 ss.length nl) (.seq 3 true (de (ch ss).flatten) (ss.length * 3) nr) (.pv S') (.pv V) (.uq 4 nl 1 (ss.map fun s=>Sg s.parts)) (.own 5 ss.length) (.pv (i64 (Eg ss))) nx (l.map Ek)=HT at *
 have hm1:fp [AV.ptr 2 0,.pv (.int .i64 0)]= .dc [.ptr 2 0,.pv (.int .i64 0)]:=rfl
 have htp:Bb HT 6 (.dc [.ptr 2 0,.pv (.int .i64 0)])=some (.dc [.rp [S',V,NX,DG,RW,i64 (Eg ss)] 0,i64 0]):=by
  show (Wa (Bb HT 5) [AV.ptr 2 0,.pv (.int .i64 0)]).map PV.dc=_
  have hv:Bb HT 5 (.pv (.int .i64 0))=some (.int .i64 0):=rfl
  simp only[Wa,t1,hv,Option.bind_some,Option.map_some]
 simp -implicitDefEqProofs only[SX,sevalprocAttr,r8,Kz,hm1,htp]
 subst hQ
 exact⟨_,rfl,⟨S',NX,DG,RW,by rw[hVe],hS',t2,t3,t4⟩⟩
end Go.AM.B1
namespace Go.AM.B1
open Go.AM Go.AM.So
section
variable {S:PV} {ss:List ec} {es:List PV} (hS:Jd S ss es) (ta:ue ss)
include hS ta
end
end Go.AM.B1
namespace Go.AM.B1
open Go.AM Go.AM.So
def wE (ls:List (List (Int×Int))) (i:Nat):List PV:=(List.range 258).map fun k=>gD ls (i * 258+k)
theorem BE (H:List aa) (d o:Nat) (row:List PV):place H d (.pv (.rp row o))=some (.pv (.rp row (o+d))):=rfl
theorem QT (H:List aa) (o n:Nat) (row:List PV):place H (n * 1) (.pv (.rp row o))=some (.pv (.rp row (o+n))):=by rw[Nat.mul_one];rfl
theorem rC {ls:List (List (Int×Int))} {i:Nat} (hi:i < ls.length) (H:List aa):ma H 258 (.pv (.lit 258 ((List.range ls.length).map (nD ls)))) (i:Int)=some (.pv (.rp (wE ls i) 0)):=by
 simp only[ma]
 rw[if_pos ⟨trivial,by unfold Ca;simp;omega⟩,Int.toNat_natCast,List.getElem?_map,List.getElem?_range hi];rfl
theorem VA {ls:List (List (Int×Int))} {i k:Nat} (hk:k < 258) (H:List aa):na H false 1 (.pv (.rp (wE ls i) k))=some (.pv (gD ls (i * 258+k))):=by
 have:(wE ls i)[k]? =some (gD ls (i * 258+k)):=by rw[wE,List.getElem?_map,List.getElem?_range hk];rfl
 simp only[na,Gk,Bool.false_eq_true,if_false,this];rfl
theorem aS {ls:List (List (Int×Int))} {i:Nat} (H:List aa):na H false 1 (.pv (.rp (wE ls i) 0))=some (.pv (fm (ls.getD i []))):=by
 rw[VA (by omega),gD,if_pos (by omega),show (i * 258+0) / 258=i by omega]
theorem WM {ls:List (List (Int×Int))} {i:Nat} (H:List aa):na H false 1 (.pv (.rp (wE ls i) 257))=some (.pv (i64 (Ba (ls.drop (i+1))))):=by
 rw[VA (by omega),gD,if_neg (by omega),if_pos (by omega),show (i * 258+257) / 258=i by omega]
theorem fS {ls:List (List (Int×Int))} {i y:Nat} (hy:y < 256) (H:List aa):na H false 1 (.pv (.rp (wE ls i) (1+y)))=some (.pv (Yp (ls.getD i []) y)):=by
 rw[VA (by omega),gD,if_neg (by omega),if_neg (by omega),show (i * 258+(1+y)) / 258=i by omega,show (i * 258+(1+y)) % 258 - 1=y by omega]
theorem CJ {ls:List (List (Int×Int))} {i:Nat} (hi:i < ls.length):ls.getD i []=ls[i]:=by rw[List.getD_eq_getElem?_getD,List.getElem?_eq_getElem hi];rfl
abbrev pH (C B:PV) (n i k:Int):Tr:=((((Tr.lf.set 22 (.pv (i64 i))).set 21 (.pv (i64 n))).set 6 (.pv (i64 k))).set 1 (.pv B)).set 0 (.pv (.rp [C] 0))
theorem rD {s:ec} {B:PV} {bs:List Int} (hB:ej B bs) (ta:Gg s):
 (∀ k,xj s bs=some k→Od [Sg s.parts,B]=some (.dc [i64 k,.bool true]))∧(xj s bs=none→Od [Sg s.parts,B]=some (.dc [i64 0,.bool false])):=by
 have lB:=hB.Mc
 have h8:=ta.hi
 have hpr:=ta.prod.2
 have hia:=fun {i:Nat} (hi:i < s.parts.length)=>rC (ls:=s.parts) hi
 have hcl:((List.range s.parts.length).map (nD s.parts)).length=s.parts.length:=by simp
 have hdg:Sg s.parts= .rp [.lit 258 ((List.range s.parts.length).map (nD s.parts))] 0:=rfl
 rw[hdg]
 generalize (List.range s.parts.length).map (nD s.parts)=C at *
 by_cases hlen:bs.length=s.parts.length
 ·have hrk:xj s bs=dh s.parts bs 0:=by unfold xj;rw[if_pos hlen]
  have hloop:me (fun r=>∃ E,(r=(.ret,⟨E,[]⟩)∧E.get 4= .pv (i64 0)∧E.get 5= .pv (.bool false)∧dh s.parts bs 0=none)∨(∃ k,r=(.exit 0,⟨E,[]⟩)∧E.get 6= .pv (i64 k)∧dh s.parts bs 0=some k))
   (Fb (fa (ga (za (fun _=>none) 8) Qc) (xa 0 [0,1,6,21,22])) wa ⟨pH (.lit 258 C) B s.parts.length 0 0,[]⟩):=by
   refine Xa (Ue (g:=fa (ga (za (fun _=>none) 8) Qc) (xa 0 [0,1,6,21,22]))
    (fun i t=>∃ k,t=⟨pH (.lit 258 C) B s.parts.length i k,[]⟩∧0≤k∧k+Ba (s.parts.drop i)≤Ba s.parts∧dh s.parts bs 0=dh (s.parts.drop i) (bs.drop i) k)
    s.parts.length (by unfold wa;omega) _ ⟨0,rfl,by omega,by simp,rfl⟩ ?_ ?_) (fun r h=>h.2)
   ·rintro i t hi ⟨k,rfl,hk0,hk1,hs⟩
    have hpo:=ta.parts s.parts[i] (List.getElem_mem hi)
    have hib:i < bs.length:=by omega
    have a3:=hB.mg hib
    have hbr:=hB.gw bs[i] (List.getElem_mem hib)
    have hd:s.parts.drop i=s.parts[i]::s.parts.drop (i+1):=List.drop_eq_getElem_cons hi
    have hdb:bs.drop i=bs[i]::bs.drop (i+1):=List.drop_eq_getElem_cons hib
    have hrb:=Sn (x:=bs[i]) (n:=0) hpo.2
    rw[hd,Ba] at hk1
    rw[hd,hdb,dh] at hs
    have hle:=Qk ta.parts (i+1)
    have hpos:=We (ls:=s.parts.drop (i+1)) fun x hx=>ta.parts x (List.mem_of_mem_drop hx)
    have hsz:=Hg hpo
    have a1:=hia hi
    have a4:=WM (ls:=s.parts) (i:=i)
    have a5:=fS (ls:=s.parts) (i:=i) (y:=(bs[i]).toNat) (by omega)
    rw[CJ hi] at a5
    generalize wE s.parts i=R at *
    generalize s.parts[i]=l at *
    generalize bs[i]=x at *
    have hwp:Yp l x.toNat= .int .u16 (if (qe x 0 l).2 then (qe x 0 l).1+1 else 0):=by unfold Yp;rw[Int.toNat_of_nonneg hbr.1]
    rw[hwp] at a5
    have e1:decide ((i:Int) < (s.parts.length:Int))=true:=db (by omega)
    have t2:=Ab hi (by unfold maxLen;omega)
    have hidx:(0≤x∧x < ((256:Nat):Int))=True:=eq_true (by omega)
    obtain⟨⟨d,is⟩,hrk2⟩:∃ r,r=qe x 0 l:=⟨_,rfl⟩
    rw[← hrk2] at hs hrb a5
    generalize hQ:LN _ _ i=Q
    cases is with
    |false=>
     simp only[Bool.false_eq_true,if_false] at hs a5
     have t3:IntKind.i64.wrap 0=0:=rfl
     have z1:((0:Int)==0)=true:=rfl
     simp -implicitDefEqProofs only[SX,sevalprocAttr,Qc,e1,a1,a3,a5,BE,QT,Dg,hidx,t3,z1,pH]
     subst hQ
     exact⟨_,.inl ⟨rfl,by simp[Tr.ba],by simp[Tr.ba],hs⟩⟩
    |true=>
     simp only[if_true] at hs a5
     have hb2:=hrb rfl
     simp only at hb2
     have hmul:d * Ba (s.parts.drop (i+1))+Ba (s.parts.drop (i+1))≤Ba (s.parts.drop (i+1)) * Fc 0 l:=by
      have h1:(d+1) * Ba (s.parts.drop (i+1))≤Fc 0 l * Ba (s.parts.drop (i+1)):=Int.mul_le_mul_of_nonneg_right (by omega) (by omega)
      rw[Int.add_mul,Int.one_mul,Int.mul_comm (Fc 0 l)] at h1
      exact h1
     have hm0:0≤d * Ba (s.parts.drop (i+1)):=Int.mul_nonneg (by omega) (by omega)
     have t3:IntKind.i64.wrap (d+1)=d+1:=Da (by omega)
     have t6:IntKind.i64.wrap (d+1 - 1)=d:=by rw[show d+1 - 1=d by omega];exact Da (by omega)
     have z1:((d+1:Int)==0)=false:=by simp;omega
     have t4:IntKind.i64.wrap (d * Ba (s.parts.drop (i+1)))=d * Ba (s.parts.drop (i+1)):=Da (by omega)
     have t5:IntKind.i64.wrap (k+d * Ba (s.parts.drop (i+1)))=k+d * Ba (s.parts.drop (i+1)):=Da (by omega)
     simp -implicitDefEqProofs only[SX,sevalprocAttr,Qc,e1,t2,t3,t4,t5,t6,z1,a1,a3,a4,a5,BE,QT,Dg,hidx,xa,Ra,AV.cut,Ta,pH]
     subst hQ
     exact⟨_,rfl,by omega,by omega,hs⟩
   ·rintro t ⟨k,rfl,hk0,hk1,hs⟩
    rw[List.drop_length,nq] at hs
    have e1:decide ((s.parts.length:Int) < (s.parts.length:Int))=false:=mb (by omega)
    generalize hQ:(fun r:Ex×St=>r.1.stop=true∧_)=Q
    simp -implicitDefEqProofs only[SX,sevalprocAttr,Qc,e1,pH]
    subst hQ
    exact⟨rfl,_,.inr ⟨k,rfl,by simp[Tr.ba],hs⟩⟩
  obtain⟨r,h1,E,h2⟩:=qd hloop
  have h1':Fb (fa (ga (za (fun _=>none) 8) Qc) (xa 0 [0,1,6,21,22])) wa ⟨((((Tr.lf.set 22 (.pv (.int .i64 0))).set 21 (.pv (i64 s.parts.length))).set 6 (.pv (.int .i64 0))).set 1 (.pv B)).set 0 (.pv (.rp [.lit 258 C] 0)),[]⟩=some r:=h1
  have d1:((bs.length:Int) != (s.parts.length:Int))=false:=by rw[hlen];simp
  rw[hrk]
  rcases h2 with⟨rfl,h4,h5,hn⟩ | ⟨k,rfl,h6,hk⟩
  ·refine⟨fun k hk=>by (rw[hn] at hk;cases hk),fun _=> ?_⟩
   simp -implicitDefEqProofs only[Od,SX,sevalprocAttr,zf,Tc,BE,Dg,lB,hcl,d1,xa,Ra,AV.cut,Ta,h1',h4,h5]
  ·refine⟨fun k' hk'=> ?_,fun hn=>by (rw[hk] at hn;cases hn)⟩
   obtain rfl:k=k':=Option.some.inj (hk.symm.trans hk')
   simp -implicitDefEqProofs only[Od,SX,sevalprocAttr,zf,Tc,BE,Dg,lB,hcl,d1,xa,Ra,AV.cut,Ta,h1',h6]
 ·have d1:((bs.length:Int) != (s.parts.length:Int))=true:=by
   have:(bs.length:Int)≠(s.parts.length:Int):=by omega
   simp[this]
  have hrk:xj s bs=none:=by unfold xj;rw[if_neg hlen]
  refine⟨fun k hk=>by (rw[hrk] at hk;cases hk),fun _=> ?_⟩
  simp -implicitDefEqProofs only[Od,SX,sevalprocAttr,zf,BE,Dg,lB,hcl,d1]
theorem pR {l:List (Int×Int)} (h:Md l) {k x:Int} (h0:0≤k) (h1:k < Fc 0 l) (hx:rN k l=some x):(fi l)[k.toNat]? =some x:=by
 obtain⟨y,q1,_,_,_,q5⟩:=vt h.2 h0 h1
 rw[hx] at q1;injection q1 with q1;subst q1
 have hr:=q5 0
 obtain⟨m,e1,e2⟩:=qq (n:=0) h.2 (by rw[hr])
 rw[hr] at e2
 simp only at e2
 rw[show k.toNat=m by omega];exact e1
abbrev JJ (C:PV) (n i k:Int) (es:List PV):Tr:=((((Tr.lf.set 19 (.pv (i64 i))).set 18 (.pv (i64 n))).set 5 (.uq 0 false 1 es)).set 1 (.pv (i64 k))).set 0 (.pv (.rp [C] 0))
theorem pz {s:ec} (ta:Gg s) {k:Int} (h0:0≤k) (h1:k < Ba s.parts):Ph [Sg s.parts,i64 k]=some (.lit 1 ((Af s.parts k).map (PV.int .u8))):=by
 have h8:=ta.hi
 have hpr:=ta.prod.2
 have hia:=fun {i:Nat} (hi:i < s.parts.length)=>rC (ls:=s.parts) hi
 have hcl:((List.range s.parts.length).map (nD s.parts)).length=s.parts.length:=by simp
 have hdg:Sg s.parts= .rp [.lit 258 ((List.range s.parts.length).map (nD s.parts))] 0:=rfl
 rw[hdg]
 generalize (List.range s.parts.length).map (nD s.parts)=C at *
 have hloop:me (fun r=>∃ E H,r=(.exit 0,⟨E,H⟩)∧E.get 5= .uq 0 false 1 ((Af s.parts k).map (PV.int .u8)))
  (Fb (fa (ga (za (fun _=>none) 8) Wd) (xa 1 [0,1,5,18,19])) wa ⟨JJ (.lit 258 C) s.parts.length 0 k [],[.tok 1 0 false]⟩):=by
  refine Xa (Ue (fun i t=>∃ j es,t=⟨JJ (.lit 258 C) s.parts.length i j (es.map (PV.int .u8)),[.tok 1 i false]⟩∧0≤j∧j < Ba (s.parts.drop i)∧es.length=i∧Af s.parts k=es++Af (s.parts.drop i) j)
   s.parts.length (by unfold wa;omega) _ ⟨k,[],rfl,h0,h1,rfl,rfl⟩ ?_ ?_) (fun r h=>h.2)
  ·rintro i t hi ⟨j,es,rfl,hj0,hj1,hel,hs⟩
   have hpo:=ta.parts s.parts[i] (List.getElem_mem hi)
   have hd:s.parts.drop i=s.parts[i]::s.parts.drop (i+1):=List.drop_eq_getElem_cons hi
   rw[hd,Ba] at hj1
   rw[hd,Af] at hs
   have hpos:=We (ls:=s.parts.drop (i+1)) fun x hx=>ta.parts x (List.mem_of_mem_drop hx)
   have hle:=Qk ta.parts (i+1)
   have hdv:=rO hj0 hpos hj1
   obtain⟨x,q3,q4,q5,_⟩:=vt hpo.2 hdv.1 hdv.2.1
   rw[q3,Option.getD_some] at hs
   have hm:=pR hpo hdv.1 hdv.2.1 q3
   have hml:=getElem?_lt hm
   have hle2:=Qk ta.parts i
   rw[hd,Ba] at hle2
   have t3:IntKind.i64.wrap (j.tdiv (Ba (s.parts.drop (i+1))))=j.tdiv (Ba (s.parts.drop (i+1))):=Da (by
    have:=hdv.2.2.2.2
    have h5:j.tdiv (Ba (s.parts.drop (i+1))) * 1≤j.tdiv (Ba (s.parts.drop (i+1))) * Ba (s.parts.drop (i+1)):=Int.mul_le_mul_of_nonneg_left hpos hdv.1
    omega)
   have a1:=hia hi
   have a4:=WM (ls:=s.parts) (i:=i)
   have a5:=aS (ls:=s.parts) (i:=i)
   rw[CJ hi] at a5
   generalize wE s.parts i=R at *
   generalize s.parts[i]=l at *
   have a6:∀ H,ma H 1 (.pv (fm l)) (j.tdiv (Ba (s.parts.drop (i+1))))=some (.pv (.rp [.int .u8 x] 0)):=fun H=>by
    simp only[ma,fm]
    rw[if_pos ⟨trivial,by unfold Ca;rw[List.length_map];omega⟩,List.getElem?_map,hm];rfl
   have e1:decide ((i:Int) < (s.parts.length:Int))=true:=db (by omega)
   have t2:=Ab hi (by unfold maxLen;omega)
   have z0:(Ba (s.parts.drop (i+1))=0)=False:=by simp;omega
   have hap:=Cs (A:=[.tok 1 i false]) (id:=0) (n:=i) (h:= .uq) (nl:=false) (bytes:=1) (es:=es.map (PV.int .u8)) rfl (by simp[hel]) (by unfold Cb;omega) (.int .u8 x)
   rw[List.set_cons_zero] at hap
   have hbm:(es++[x]).map (PV.int .u8)=es.map (PV.int .u8)++[.int .u8 x]:=by simp
   generalize hpq:Ba (s.parts.drop (i+1))=pr at *
   generalize hQ:LN _ _ i=QQ
   simp -implicitDefEqProofs only[SP,WP,oa,sevalprocAttr,Wd,e1,t2,t3,z0,a1,a4,a5,a6,BE,Dg,hap,xa,Ra,AV.cut,pa,Ta,JJ]
   subst hQ
   exact⟨_,es++[x],by rw[hbm],hdv.2.2.1,by rw[hpq];exact hdv.2.2.2.1,by simp[hel],by rw[hs];simp⟩
  ·rintro t ⟨j,es,rfl,hj0,hj1,hel,hs⟩
   rw[List.drop_length,Af,List.append_nil] at hs
   have e1:decide ((s.parts.length:Int) < (s.parts.length:Int))=false:=mb (by omega)
   generalize hQ:(fun r:Ex×St=>r.1.stop=true∧_)=Q
   simp -implicitDefEqProofs only[SX,sevalprocAttr,Wd,e1,JJ]
   subst hQ
   exact⟨rfl,_,_,rfl,by rw[hs];simp[Tr.ba]⟩
 obtain⟨r,g1,E,H,rfl,g6⟩:=qd hloop
 have g1':Fb (fa (ga (za (fun _=>none) 8) Wd) (xa 1 [0,1,5,18,19])) wa ⟨((((Tr.lf.set 19 (.pv (.int .i64 0))).set 18 (.pv (i64 s.parts.length))).set 5 (.uq 0 false 1 [])).set 1 (.pv (i64 k))).set 0 (.pv (.rp [.lit 258 C] 0)),[.tok 1 0 false]⟩=some (.exit 0,⟨E,H⟩):=g1
 have e4:Cb s.parts.length 1:=by unfold Cb;omega
 have e2:(0≤(s.parts.length:Int))=True:=by simp
 have e5:((0:Int)≤0)=True:=by simp
 simp -implicitDefEqProofs only[Ph,SX,sevalprocAttr,Dk,BE,Dg,hcl,eq_true e4,e2,e5,Tc,xa,Ra,AV.cut,pa,Ta,g1',g6,qi,fresh,Bc,chunk]
end Go.AM.B1
