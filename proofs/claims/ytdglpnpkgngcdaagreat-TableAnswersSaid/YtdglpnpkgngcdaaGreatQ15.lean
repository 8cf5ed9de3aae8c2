/- What functions of the program compute. -/
import Derived.Test.YtdglpnpkgngcdaaGreatQ14
import Derived.Test.YtdglpnpkgngcdaaGreatQ13
import Derived.Test.YtdglpnpkgngcdaaGreatQ11
import Derived.Test.YtdglpnpkgngcdaaGreatQ3
import Derived.Test.YtdglpnpkgngcdaaGreatG3
import Derived.Test.YtdglpnpkgngcdaaGreatRows
set_option linter.unusedVariables false
set_option linter.unusedSimpArgs false
namespace Go.AM.B1
open Go.AM Go.AM.So
theorem eQ.lit (us:List Int) (n0:Nat):eQ (.pv (.lit 1 (us.map i64))) us n0:=by
 refine⟨fun H=>by simp[Wb],fun H i h=> ?_,fun n hn=>Ia⟩
 simp only[qa]
 rw[if_pos ⟨trivial,by unfold Fa;rw[List.length_map];omega⟩,Int.toNat_natCast,List.getElem?_map,List.getElem?_eq_getElem h];rfl
theorem eQ.pa (n0:Nat):eQ (.pv .pa) [] n0:=⟨fun H=>rfl,fun H i h=>by simp at h,fun n hn=>Ia⟩
theorem eQ.uq (us:List Int) {id n0:Nat} (nl:Bool) (h:id < n0):eQ (.uq id nl 1 (us.map i64)) us n0:=by
 refine⟨fun H=>by simp[Wb],fun H i h=> ?_,fun n hn=>tE (by omega)⟩
 simp only[qa]
 rw[if_pos ⟨trivial,by unfold Fa;rw[List.length_map];omega⟩,Int.toNat_natCast,List.getElem?_map,List.getElem?_eq_getElem h];rfl
end Go.AM.B1
namespace Go.AM.B1
open Go.AM Go.AM.So
section
variable {A:List ba} {c:Nat} {call:Za} {S R:PV} {ss:List dc} {es:List PV} {un tot out:Int} {rb:List Int}
structure OV (H:List ba) (c:Nat) (S R:PV) (un tot out:Int) (st fin:Bool):Prop where
 ld:∀ o,ya H false 1 (.ptr c o)=lh false 1 [.pv S,.pv (i64 un),.pv R,.pv (i64 tot),.pv (i64 out),.pv (.bool st),.pv (.bool fin)] o
 pl:∀ d,place H d (.ptr c 0)=some (.ptr c (0+d))
 l0:ya H true 1 (.ptr c 0)=some (.pv (.agg [S]))
 nn:Bs H 1 (.ptr c 0) (.pv .Mi)=some false
theorem OV.of {H:List ba} {st fin:Bool} (h:H[c]? =some (KX S R un tot out st fin)):OV H c S R un tot out st fin:=by
 have hB:KX S R un tot out st fin= .box [.pv S,.pv (i64 un),.pv R,.pv (i64 tot),.pv (i64 out),.pv (.bool st),.pv (.bool fin)]:=rfl
 refine⟨fun o=>by simp only[ya,h,hB],fun d=>wg h d 0,by simp only[ya,h,hB];rfl,by simp only[Bs,h,hB]⟩
theorem OV.get {H:List ba} {st fin:Bool} (h:OV H c S R un tot out st fin):ya H false 1 (.ptr c 1)=some (.pv (i64 un))∧ya H false 1 (.ptr c 2)=some (.pv R)∧ya H false 1 (.ptr c 3)=some (.pv (i64 tot))∧ya H false 1 (.ptr c 4)=some (.pv (i64 out))∧ya H false 1 (.ptr c 5)=some (.pv (.bool st))∧ya H false 1 (.ptr c 6)=some (.pv (.bool fin))∧ya H true 1 (.ptr c 0)=some (.pv (.agg [S]))∧∀ d,place H d (.ptr c 0)=some (.ptr c (0+d)):=
 ⟨h.ld _,h.ld _,h.ld _,h.ld _,h.ld _,h.ld _,h.l0,h.pl⟩
end
end Go.AM.B1
namespace Go.AM.B1
open Go.AM Go.AM.So
def FX (l:List Int):ByteArray:=⟨(l.map fun n=>UInt8.ofNat n.toNat).toArray⟩
theorem UC:∀ l:List Int,bytesOf (l.map u8)=some (l.map fun n=>UInt8.ofNat n.toNat)
 | []=>rfl
 |x::l=>by
  show (bytesOf (l.map u8)).map (UInt8.ofNat x.toNat:: ·)=_
  rw[UC l];rfl
theorem rI (H:List ba) (l:List Int):aA H (.pv (.lit 1 (l.map u8)))=some (FX l):=by
 show (bytesOf (l.map u8)).map _=_
 rw[UC];rfl
theorem bS (H:List ba):aA H (.pv .pa)=some (FX []):=rfl
theorem aX (x:ByteArray):WD .neq x x=some (.bool false):=by
 show some (PV.bool (!(x.data.toList==x.data.toList)))=_
 rw[qS];rfl
end Go.AM.B1
namespace Go.AM.B1
open Go.AM Go.AM.So
theorem dE {H:List ba} {id n sz bytes:Nat} {nl nl' ag:Bool} {es ys:List PV} {V:PV} (hV:Di sz V ys) (hg:H[id]? =some (.tok sz n nl')) (hn:n=es.length) (hr:pb (es.length+ys.length) bytes):
 ic H false .uq sz ag bytes (.uq id nl sz es) (.pv V)=some (.uq id (nl&&ys.isEmpty) sz (es++ys),H.set id (.tok sz (es.length+ys.length) (nl&&ys.isEmpty))):=by
 rcases hV with⟨rfl,rfl⟩ | rfl
 ·subst hn
  simp only[ic,Bool.false_eq_true,if_false,hg,Gf,if_true,Option.bind_some]
  rw[if_pos ⟨trivial,trivial,trivial,by simpa using hr⟩]
 ·exact YM hg hn hr
end Go.AM.B1
namespace Go.AM.B1
open Go.AM
end Go.AM.B1
namespace Go.AM.B1
open Go.AM Go.AM.So
theorem iK:Dh []=some (.bool true):=by
 obtain⟨Aa,T,h1,hT,_⟩:=YK (nI (by decide) (by decide) (by decide)) NJ OH aI FM
 have he:=zD hT Aa 233
 rw[show AN 233 Zx=some [195,169] from by decide] at he
 have hB:Vj (.lit 1 [u8 195,u8 169]) [195,169]:=⟨.inr rfl,by decide⟩
 have hd:=XJ hT Aa hB
 rw[show Is [195,169] Zx=some 233 from by decide] at hd
 obtain⟨RW,hr,hRW⟩:=GQ hT Aa
 rw[KL] at hRW
 have hRW:RW= .lit 3 [.agg [i64 0,i64 127,i64 1],.agg [i64 128,i64 2047,i64 0]]:=by
  rcases hRW with⟨_,h⟩ | h
  ·cases h
  ·exact h
 subst hRW
 have hl:=xP hT
 rw[show Og Zx=2 from by decide] at hl
 have hdoc:(.lit 2 (Zx.map Le):PV)= .lit 2 [.agg [.lit 1 [.lit 2 [.agg [i64 194,i64 223]],.lit 2 [.agg [i64 128,i64 191]]],i64 128],.agg [.lit 1 [.lit 2 [.agg [i64 0,i64 127]]],i64 0]]:=rfl
 rw[hdoc] at h1
 have he:Sd [T,i64 233]=some (.Zb [.lit 1 [u8 195,u8 169],.bool true]):=he
 obtain⟨S',NX,DG,RW,rfl,_⟩:=hT.ex
 generalize ([S',Ai [[⟨0,127,-1⟩,⟨194,223,1⟩],[⟨128,191,-1⟩]],NX,DG,RW,i64 (Og Zx)]:List PV)=R at *
 have hb2:∀ H,aA H (.pv (.lit 1 [u8 195,u8 169]))=some ⟨#[195,169]⟩:=fun H=>rfl
 have z:WD .eql ⟨#[195,169]⟩ ⟨#[195,169]⟩=some (.bool true):=rfl
 have i0:Fa 0 2=True:=eq_true (by unfold Fa;decide)
 have i1:Fa 1 2=True:=eq_true (by unfold Fa;decide)
 have k1:gk (.row [1,1,1]) (.agg [i64 0,i64 127,i64 1]) (.agg [.int .i64 0,.int .i64 127,.int .i64 1])=some true:=rfl
 have k2:gk (.row [1,1,1]) (.agg [i64 128,i64 2047,i64 0]) (.agg [.int .i64 128,.int .i64 2047,.int .i64 0])=some true:=rfl
 simp -implicitDefEqProofs only[Dh,SP,SA,SQ,WP,WQ,sevalprocAttr,zj,h1,he,hd,hr,hl,Bs,hb2,z,i0,i1,k1,k2]
end Go.AM.B1
namespace Go.AM.B1
open Go.AM Go.AM.So
section
variable {call:Za} {T V B:PV} {ss:List dc} {l:List (List Oe)} {bs:List Int} (o:ba) (ho:o= .box [.pv V]) {H:List ba} (hH:∃ T,H=o::T) (hob:∀ o∈H,ma H.length o=some o)
 (hV:Sk V l) (hst:∀ st b:Int,0≤b∧b≤255→Mc [T,i64 st,u8 b]=some (.Zb [i64 (Yf l st b).1,.bool (Yf l st b).2])) (h64:l.length≤64)
include ho hH hob hV hst h64
theorem lM {b:Int} (hb:0≤b∧b≤255) {vB vn vj:PV} {E0:Tr} (h7:E0.get 7= .pv T) (h9:E0.get 9= .ptr 0 0) (h24:E0.get 24= .pv (u8 b)) (h25:E0.get 25= .pv (i64 (-1))) (h122:E0.get 122= .pv vB) (h123:E0.get 123= .pv vn) (h124:E0.get 124= .pv vj):
 Td (fun r=>r.1.stop=true∧∃ E,r=(.exit 2,⟨E,H⟩)∧E.get 7= .pv T∧E.get 9= .ptr 0 0∧E.get 122= .pv vB∧E.get 123= .pv vn∧E.get 124= .pv vj)
  (ta call (.loop [7,9,24,25,122,123,124] ue) ⟨E0,H⟩):=by
 obtain⟨H',rfl⟩:=hH
 have ln:=hV.Wb
 have p0:place (o::H') 0 (.ptr 0 0)=some (.ptr 0 0):=by rw[ho];rfl
 have l0:ya (o::H') false 1 (.ptr 0 0)=some (.pv V):=by rw[ho];rfl
 have l1:ya (o::H') true 1 (.ptr 0 0)=some (.pv (.agg [V])):=by rw[ho];rfl
 refine Mo (fun i:Nat=>[(7,.pv T),(9,.ptr 0 0),(24,.pv (u8 b)),(25,.pv (i64 ((i:Int) - 1))),(122,.pv vB),(123,.pv vn),(124,.pv vj)]) (fun _=>o::H') (fun i x=>x=i) (l.length+2) (by unfold oa;omega) (fun _=>rfl)
  (fun i x _=>⟨by simp[Vn,Vz],hob,rfl⟩) ⟨0,⟨h7,h9,h24,h25,h122,h123,h124,trivial⟩,rfl,rfl⟩ ?_ ?_
 ·rintro _ i E hi rfl ⟨g7,g9,g24,g25,g122,g123,g124,_⟩
  have e1:decide ((i:Int) - 1≤(l.length:Int))=true:=Da (by omega)
  have w1:IntKind.i64.wrap ((i:Int) - 1+1)=((i+1:Nat):Int) - 1:=by rw[Ba (by omega)];omega
  have s1:=hst ((i:Int) - 1) b hb
  have s2:=LB V l hV ((i:Int) - 1) b hb
  have x0:∀ a:Int,(a != a)=false:=fun a=>by simp
  have y0:∀ (H:List ba) (b:Bool),Bs H 0 (.pv (.bool b)) (.pv (.bool b))=some true:=fun H b=>by simp[Bs]
  generalize Yf l ((i:Int) - 1) b=p at *
  generalize (i:Int) - 1=j at *
  generalize hQ:RH _ _ _ _=Q
  generalize o::H'=H at *
  simp -implicitDefEqProofs only[SX,sevalprocAttr,ue,g7,g9,g24,g25,p0,l0,l1,ln,e1,s1,s2,x0,y0,w1]
  subst hQ
  exact⟨i+1,[],by simp[Has,Tr.aa,g7,g9,g24,g122,g123,g124],(List.append_nil _).symm,rfl⟩
 ·rintro i E rfl ⟨g7,g9,g24,g25,g122,g123,g124,_⟩
  have e1:decide (((l.length+2:Nat):Int) - 1≤(l.length:Int))=false:=Ha (by omega)
  generalize hQ:(fun r:Ex×St=>r.1.stop=true∧_)=Q
  generalize o::H'=H at *
  simp -implicitDefEqProofs only[SX,sevalprocAttr,ue,g9,g25,p0,l0,ln,e1]
  subst hQ
  exact⟨rfl,_,rfl,by simp[Tr.aa,g7],by simp[Tr.aa,g9],by simp[Tr.aa,g122],by simp[Tr.aa,g123],by simp[Tr.aa,g124]⟩
theorem fP (hB:Vj B bs) (hw:bs.length≤maxLen) {E0:Tr} (h7:E0.get 7= .pv T) (h9:E0.get 9= .ptr 0 0) (h122:E0.get 122= .pv B) (h123:E0.get 123= .pv (i64 bs.length)) (h124:E0.get 124= .pv (i64 0)):
 Td (fun r=>r.1.stop=true∧∃ E,r=(.exit 0,⟨E,H⟩)) (ta call (.loop [7,9,122,123,124] Xc) ⟨E0,H⟩):=by
 have hin:=fun (b:Int) (hb:0≤b∧b≤255) (vB vn vj:PV) (E0:Tr)=>lM (call:=call) o ho hH hob hV hst h64 hb (vB:=vB) (vn:=vn) (vj:=vj) (E0:=E0)
 refine Mo (fun i:Nat=>[(7,.pv T),(9,.ptr 0 0),(122,.pv B),(123,.pv (i64 bs.length)),(124,.pv (i64 i))]) (fun _=>H) (fun i x=>x=i) bs.length (by unfold oa;unfold maxLen at hw;omega) (fun _=>rfl)
  (fun i x _=>⟨by obtain⟨H',rfl⟩:=hH;simp[Vn,Vz],hob,rfl⟩) ⟨0,⟨h7,h9,h122,h123,h124,trivial⟩,rfl,rfl⟩ ?_ ?_
 ·rintro _ i E hi rfl ⟨g7,g9,g122,g123,g124,_⟩
  have e1:decide ((i:Int) < (bs.length:Int))=true:=Da (by omega)
  have w1:IntKind.i64.wrap ((i:Int)+1)=((i+1:Nat):Int):=mj (by unfold maxLen at hw;omega)
  have a1:=hB.pd hi
  have hbb:=hB.RB _ (List.getElem_mem hi)
  generalize bs[i]=b at *
  have hin:=hin b hbb
  generalize hQ:RH _ _ _ _=Q
  by_cases h20:(i:Int) > 20
  ·have d1:decide ((i:Int) > 20)=true:=Da h20
   simp -implicitDefEqProofs only[SX,sevalprocAttr,Xc,g7,g9,g122,g123,g124,e1,a1,Pa,d1]
   subst hQ
   exact⟨_,rfl⟩
  ·have d1:decide ((i:Int) > 20)=false:=Ha h20
   simp -implicitDefEqProofs only[SX,sevalprocAttr,Xc,g7,g9,g122,g123,g124,e1,a1,Pa,d1]
   refine xa (hin _ _ _ _ (by simp[Tr.aa,g7]) (by simp[Tr.aa,g9]) (by simp[Tr.aa]) (by simp[Tr.aa]) (by simp[Tr.aa,g122];rfl) (by simp[Tr.aa,g123];rfl) (by simp[Tr.aa,g124];rfl)) ?_
   rintro r ⟨_,E2,rfl,q7,q9,q122,q123,q124⟩
   simp -implicitDefEqProofs only[SX,sevalprocAttr,q124,w1]
   subst hQ
   exact⟨i+1,[],by simp[Has,Tr.aa,q7,q9,q122,q123],(List.append_nil _).symm,rfl⟩
 ·rintro i E rfl ⟨g7,g9,g122,g123,g124,_⟩
  have e1:decide ((bs.length:Int) < (bs.length:Int))=false:=Ha (by omega)
  generalize hQ:(fun r:Ex×St=>r.1.stop=true∧_)=Q
  simp -implicitDefEqProofs only[SX,sevalprocAttr,Xc,g123,g124,e1]
  subst hQ
  exact⟨rfl,_,rfl⟩
end
theorem fK {S:PV} {ss:List dc} {es:List PV} (hS:Ab S ss es) (u:Int) {B:PV} {bs:List Int} (hB:Vj B bs) (hw0:bs.length≤140737488355328):Xb (fun _=>none) tc [.agg [S],i64 u,B]=some (.bool true):=by
 have hS1:(AV.pv S).one=true:=by rcases hS.is with⟨h,_⟩ | h <;> rw[h] <;> rfl
 have hfx:=iK
 have hw:bs.length≤maxLen:=by unfold maxLen;omega
 obtain⟨n,V,hr,hV,hV1,ht⟩:=mH ss
 have hr:=hr S es hS
 obtain⟨T,ht,hc⟩:=ht S es hS
 have en:∀ H,Bs H 1 (.pv .Mi) (.pv .Mi)=some true:=fun H=>rfl
 rcases hc with⟨h0,rfl⟩ | ⟨rfl,Aa,_,hinj,l,ha,hT,hed⟩
 ·have d1:(n != 0)=true:=by simp[h0]
  simp -implicitDefEqProofs only[SX,sevalprocAttr,tc,hfx,hS1,Pf,ht,d1,en]
 ·obtain⟨l',ha',hVe⟩:=hV rfl
  have hll:l=l':=Option.some.inj (ha.symm.trans ha')
  subst hll
  clear hV ha'
  obtain⟨k64,k256⟩:=Ow ha
  have hVh:Sk V l:=by rw[hVe];exact Gy k64 k256
  have henc:=zD hT Aa u
  have hof:=HL hS Aa u
  have hBl:Vj (.lit 1 (bs.map u8)) bs:=⟨.inr rfl,hB.RB⟩
  have hdec:=XJ hT Aa hBl
  have hmea:=mF hS Aa hinj hB
  have hmat:=oM hT hed hBl hw
  have hrm:=NH V B l hVh bs hB.is hB.RB hw
  have hst:∀ st b:Int,0≤b∧b≤255→Mc [T,i64 st,u8 b]=some (.Zb [i64 (Yf l st b).1,.bool (Yf l st b).2]):=fun st b h=>dG hT hed h
  have lB:=hB.Wb
  obtain⟨R0,rfl⟩:∃ R,T= .rp R 0:=by
   obtain⟨S',NX,DG,RW,h,_⟩:=hT.ex
   exact⟨_,h⟩
  have e1:∀ H,Bs H 1 (.pv (.rp R0 0)) (.pv .Mi)=some false:=fun H=>rfl
  have z0:((0:Int) != 0)=false:=rfl
  have x0:∀ a:Int,(a != a)=false:=fun a=>by simp
  have y0:∀ (H:List ba) (b:Bool),Bs H 0 (.pv (.bool b)) (.pv (.bool b))=some true:=fun H b=>by simp[Bs]
  have s1:Ra [.box [.pv .pa]] 1 (.ptr 0 0) (.pv (.agg [V]))=some [.box [.pv V]]:=by simp[Ra,AV.cells,PV.cells,hV1,na]
  have hfr:∀ H,fresh H .uq 1 false 0 []=some (.uq H.length false 1 [],H++[.tok 1 0 false]):=fun H=>rfl
  have hrl:pb (([]:List PV).length+(bs.map (PV.int .u8)).length) 1:=by unfold pb;simp;omega
  obtain⟨o,ho⟩:∃ o,o=ba.box [.pv V]:=⟨_,rfl⟩
  have ap1:ic [o,.tok 1 0 false] false .uq 1 false 1 (.uq 1 false 1 []) (.pv B)=some (.uq 1 false 1 (bs.map u8),[o,.tok 1 bs.length false]):=by
   rw[dE hB.is (n:=0) (by rfl) rfl hrl];simp
  have ap2:ic [o,.tok 1 bs.length false,.tok 1 0 false] false .uq 1 false 1 (.uq 2 false 1 []) (.pv B)=some (.uq 2 false 1 (bs.map u8),[o,.tok 1 bs.length false,.tok 1 bs.length false]):=by
   rw[dE hB.is (n:=0) (by rfl) rfl hrl];simp
  have hp1:([o]++[.tok 1 0 false]:List ba)=[o,.tok 1 0 false]:=rfl
  have hp2:([o,.tok 1 bs.length false]++[.tok 1 0 false]:List ba)=[o,.tok 1 bs.length false,.tok 1 0 false]:=rfl
  have hl1:([o]:List ba).length=1:=rfl
  have hl2:([o,.tok 1 bs.length false]:List ba).length=2:=rfl
  have tv:∀ H id,Ub H 6 (.uq id false 1 (bs.map u8))=some (.lit 1 (bs.map u8)):=fun H id=>rfl
  have l1:∀ T,ya (o::T) true 1 (.ptr 0 0)=some (.pv (.agg [V])):=fun T=>by rw[ho];rfl
  obtain⟨H,hH⟩:∃ H,H=[o,.tok 1 bs.length false,.tok 1 bs.length false]:=⟨_,rfl⟩
  have hloop:=fun E=>fP (call:=Ga (fun _=>none) 8) (E0:=E) o ho (H:=H) ⟨_,hH⟩ (by
   rw[hH]
   intro x hx
   simp only[List.mem_cons,List.not_mem_nil,or_false] at hx
   rcases hx with rfl | rfl | rfl
   ·rw[ho];exact Fo _ [V]
   ·rfl
   ·rfl) hVh hst k64 hB hw
  rw[← hH] at ap2
  have l2:ya H true 1 (.ptr 0 0)=some (.pv (.agg [V])):=by rw[hH];exact l1 _
  rw[← ho] at s1
  have hne:=aX
  have key:∀ (X:PV) (k:Bool) (x:ByteArray),(match AN u ss with | some b=>PV.Zb [.lit 1 (b.map u8),.bool true] | none=> .Zb [.pa,.bool false])= .Zb [X,.bool k]→(∀ H,aA H (.pv X)=some x)→∀ (v:Int) (is:Bool),(match Is bs ss with | some v=>PV.Zb [i64 v,.bool true] | none=> .Zb [i64 0,.bool false])= .Zb [i64 v,.bool is]→Xb (fun _=>none) tc [.agg [S],i64 u,B]=some (.bool true):=by
   intro X k x hX hx v is hv
   replace henc:=henc.trans (congrArg some hX)
   replace hof:=hof.trans (congrArg some hX)
   replace hdec:=hdec.trans (congrArg some hv)
   replace hmea:=hmea.trans (congrArg some hv)
   generalize Ej l 0 0 bs=m at *
   generalize hBB:bs.map u8=bb at *
   apply Lk
   generalize hQ:(fun x=>x=PV.bool true)=Q
   simp -implicitDefEqProofs only[SX,sevalprocAttr,tc,hfx,hS1,Pf,ht,hr,z0,e1,s1,henc,hof,Lj,Io,hfr,hp1,hp2,hl1,hl2,ap1,ap2,tv,hdec,hmea,hmat,l1,l2,hrm,hx,hne,x0,y0,lB]
   refine xa (hloop _ (by simp[Tr.aa]) (by simp[Tr.aa]) (by simp[Tr.aa]) (by simp[Tr.aa]) (by simp[Tr.aa])) ?_
   rintro r ⟨_,E,rfl⟩
   simp -implicitDefEqProofs only[SX,sevalprocAttr]
   subst hQ
   rfl
  obtain⟨v,is,hv⟩:∃ (v:Int) (is:Bool),(match Is bs ss with | some v=>PV.Zb [i64 v,.bool true] | none=> .Zb [i64 0,.bool false])= .Zb [i64 v,.bool is]:=by
   cases Is bs ss with
   |none=>exact⟨_,_,rfl⟩
   |some v=>exact⟨_,_,rfl⟩
  cases hcd:AN u ss with
  |none=>exact key .pa false _ (by rw[hcd]) bS v is hv
  |some b=>exact key _ true _ (by rw[hcd]) (fun H=>rI H b) v is hv
end Go.AM.B1
set_option maxRecDepth 100000
namespace Go.Proofs.YtdglpnpkgngcdaaGreat
open Go.ChangeShapes Go.WideShapes Go.ChangeAt Go.RowKit Go.AM
theorem HV:Tryz.prog.cellsOf 44=2:=by kernel_rfl
theorem kV:Tryz.prog.bytesOf 44=16:=by kernel_rfl
theorem BU:Tryz.prog.cellsOf 42=1:=by kernel_rfl
theorem ZV:Tryz.prog.bytesOf 42=24:=by kernel_rfl
theorem uV:Tryz.prog.cellsOf 41=2:=by kernel_rfl
theorem TU:Tryz.prog.bytesOf 41=32:=by kernel_rfl
theorem AU {g:Nat} {row:List PV} (h:Sh Tryz.prog (g+2) 44 row):∃ p:Int×Int,zm Tryz.prog 44 row=B1.pr p:=by
 rw[oA Tryz.underlying44]
 obtain⟨rows,hl,rfl,hr⟩:=BA Tryz.underlying44 h
 match rows,hl with
 | [x,y],_=>
   obtain⟨a,rfl,_⟩:=MA Tryz.underlying3 (hr 0 _ x rfl rfl)
   obtain⟨b,rfl,_⟩:=MA Tryz.underlying3 (hr 1 _ y rfl rfl)
   exact⟨(a,b),rfl⟩
theorem mS {α β:Type} {f:α→β}:∀ {es:List β},(∀ e∈es,∃ a,e=f a)→∃ l:List α,es=l.map f
 | [],_=>⟨[],rfl⟩
 |e::es,h=>by
  obtain⟨a,ha⟩:=h e (by simp)
  obtain⟨l,hl⟩:=mS (es:=es) fun e he=>h e (by simp[he])
  exact⟨a::l,by rw[ha,hl];rfl⟩
theorem xR {g:Nat} {row:List PV} (h:Sh Tryz.prog (g+3) 42 row):∃ (V:PV) (l:List (Int×Int)),row=[V]∧B1.Jm V l:=by
 rcases Az Tryz.underlying42 h with rfl | ⟨es,rfl,h1,h2,h3⟩
 ·exact⟨_,[],rfl,.inl ⟨rfl,rfl⟩,Nat.zero_le _⟩
 ·obtain⟨l,hl⟩:=mS (f:=B1.pr) (es:=es.map (zm Tryz.prog 44)) (by
   intro e he
   obtain⟨r,hr,rfl⟩:=List.mem_map.1 he
   exact AU (h3 r hr))
  have hlen:l.length=es.length:=by have:=congrArg List.length hl;simpa using this.symm
  refine⟨_,l,rfl,.inr (by rw[HV,hl]),?_⟩
  rw[hlen]
  rw[kV] at h2
  exact Nat.le_trans h2 (by decide)
theorem xH {R A:Type} {f:R→PV} {Q:PV→A→Prop}:∀ (es:List R),(∀ r∈es,∃ a,Q (f r) a)→∃ l:List A,l.length=es.length∧∀ (k:Nat) v a,(es.map f)[k]? =some v→l[k]? =some a→Q v a
 | [],_=>⟨[],rfl,by simp⟩
 |r::es,h=>by
  obtain⟨a,ha⟩:=h r (by simp)
  obtain⟨l,h1,h2⟩:=xH es fun x hx=>h x (by simp[hx])
  refine⟨a::l,by simp[h1],?_⟩
  intro k v b hv hb
  match k with
  |0=>simp at hv hb;subst hv hb;exact ha
  |k+1=>exact h2 k v b (by simpa using hv) (by simpa using hb)
theorem SR {g:Nat} {row:List PV} (h:Sh Tryz.prog (g+4) 39 row):∃ (P:PV) (ls:List (List (Int×Int))) (ps:List PV),row=[P]∧B1.Rf P ls ps∧ls.length * 24≤140737488355328:=by
 rcases Az Tryz.underlying39 h with rfl | ⟨es,rfl,h1,h2,h3⟩
 ·exact⟨_,[],[],rfl,⟨.inl ⟨rfl,rfl⟩,rfl,by simp,by simp⟩,by simp⟩
 ·obtain⟨l,hl,hq⟩:=xH (f:=zm Tryz.prog 42) (Q:=B1.Jm) es (by
   intro r hr
   obtain⟨V,l,rfl,hV⟩:=xR (h3 r hr)
   rw[MI Tryz.underlying42]
   exact⟨l,hV⟩)
  have hz:l.length * 24≤140737488355328:=by rw[ZV] at h2;rw[hl];exact Nat.le_trans h2 (by decide)
  exact⟨_,l,es.map (zm Tryz.prog 42),rfl,⟨.inr (by rw[BU]),by rw[List.length_map,hl],hq,by unfold maxLen;omega⟩,hz⟩
theorem wS {g:Nat} {row:List PV} (h:Sh Tryz.prog (g+5) 41 row):∃ (s:B1.dc),(∃ P ps,B1.pf (zm Tryz.prog 41 row) s P ps)∧s.parts.length * 24≤140737488355328:=by
 rw[oA Tryz.underlying41]
 obtain⟨rows,hl,rfl,hr⟩:=BA Tryz.underlying41 h
 match rows,hl with
 | [x,y],_=>
   obtain⟨P,ls,ps,rfl,hP,hz⟩:=SR (hr 0 _ x rfl rfl)
   obtain⟨b,rfl,_⟩:=MA Tryz.underlying3 (hr 1 _ y rfl rfl)
   exact⟨⟨ls,b⟩,⟨P,ps,rfl,hP⟩,hz⟩
theorem iR {g:Nat} {row:List PV} (h:Sh Tryz.prog (g+6) 22 row):∃ (S:PV) (ss:List B1.dc) (es:List PV),row=[S]∧B1.Ab S ss es∧B1.zT ss:=by
 rcases Az Tryz.underlying22 h with rfl | ⟨es,rfl,h1,h2,h3⟩
 ·exact⟨_,[],[],rfl,⟨.inl ⟨rfl,rfl⟩,rfl,by simp,by simp⟩,⟨by simp,by simp⟩⟩
 ·obtain⟨l,hl,hq⟩:=xH (f:=zm Tryz.prog 41) (Q:=fun e s=>(∃ P ps,B1.pf e s P ps)∧s.parts.length * 24≤140737488355328) es (fun r hr=>wS (h3 r hr))
  have hz:l.length * 32≤140737488355328:=by rw[TU] at h2;rw[hl];exact Nat.le_trans h2 (by decide)
  refine⟨_,l,es.map (zm Tryz.prog 41),rfl,⟨.inr (by rw[uV]),by rw[List.length_map,hl],fun k e s he hs=>(hq k e s he hs).1,by unfold maxLen;omega⟩,hz,?_⟩
  intro s hs
  obtain⟨k,hk,rfl⟩:=List.getElem_of_mem hs
  exact (hq k _ _ (List.getElem?_eq_getElem (by rw[List.length_map];omega)) (List.getElem?_eq_getElem hk)).2
theorem cR {g:Nat} {row:List PV} (h:Sh Tryz.prog (g+7) 24 row):∃ (S:PV) (ss:List B1.dc) (es:List PV),row=[S]∧B1.Ab S ss es∧B1.zT ss:=by
 obtain⟨rows,hl,rfl,hr⟩:=BA Tryz.underlying24 h
 match rows,hl with
 | [x],_=>
   obtain⟨S,ss,es,rfl,h1,h2⟩:=iR (hr 0 _ x rfl rfl)
   exact⟨S,ss,es,rfl,h1,h2⟩
theorem own:ownKnob Tryz.prog.godebug=none:=by kernel_rfl
theorem laidOut:laidOutB Tryz.prog=true:=by kernel_rfl
theorem gX:Tryz.prog.cellsOf 5=1:=by kernel_rfl
theorem IW:Tryz.prog.bytesOf 5=1:=by kernel_rfl
theorem wf_u8 {n:Int} (h:(Lit.int .u8 n).wf=true):0≤n∧n≤255:=by
 simp only[Lit.wf,Bool.and_eq_true,decide_eq_true_eq] at h
 exact h
theorem LR {g:Nat} {row:List PV} (h:Sh Tryz.prog (g+2) 47 row):∃ (B:PV) (bs:List Int),row=[B]∧B1.Vj B bs∧bs.length≤reachBytes:=by
 rcases oU Tryz.underlying47 Tryz.underlying5 h with rfl | ⟨l,rfl,_,hl,hw⟩
 ·exact⟨_,[],rfl,⟨.inl ⟨rfl,rfl⟩,by simp⟩,Nat.zero_le _⟩
 ·rw[IW,Nat.mul_one] at hl
  exact⟨_,l,rfl,⟨.inr (by rw[gX]),fun b hb=>wf_u8 (hw b hb)⟩,hl⟩
end Go.Proofs.YtdglpnpkgngcdaaGreat
