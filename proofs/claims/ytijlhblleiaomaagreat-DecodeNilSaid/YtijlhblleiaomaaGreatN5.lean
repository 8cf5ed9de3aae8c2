/- What functions of the program compute. -/
import Derived.Test.YtijlhblleiaomaaGreatN4
import Derived.Test.YtijlhblleiaomaaGreatJ3
import Derived.Test.YtijlhblleiaomaaGreatN1
import Derived.Test.YtijlhblleiaomaaGreatN2
set_option linter.unusedVariables false
set_option linter.unusedSimpArgs false
namespace Go.AM.B1
open Go.AM Go.AM.So
theorem jH:uf=Gb:=rfl
theorem uE:yf=Gb:=rfl
theorem bG:Ff=Gb:=rfl
def vA (p:Int×Int):List PV:=[i64 p.1,i64 p.2]
def Nd (l:List (Int×Int)):Array (List PV):=(l.map vA).toArray
def KR (r:List PV):Prop:=∃ p,r=vA p
theorem xt (r:List PV) (h:KR r):KN 2 r:=by
 obtain⟨p,rfl⟩:=h
 exact⟨rfl,by intro c hc;simp[vA] at hc;rcases hc with rfl | rfl <;> rfl⟩
theorem uw (l:List (Int×Int)):∀ r∈(Nd l).toList,KR r:=by
 intro r hr
 simp[Nd] at hr
 obtain⟨a,b,_,rfl⟩:=hr
 exact⟨(a,b),rfl⟩
theorem Fl (l:List (Int×Int)):(Nd l).size=l.length:=by simp[Nd]
def xc (l:List (Int×Int)) (fl:Nat) (nl:Bool):aa:=Ye 2 (Nd l) fl nl
theorem ug (l:List (Int×Int)):(Bf (Nd l)).length=l.length * 2:=by
 rw[Ft fun r hr=>xt r (uw l r hr),Fl]
theorem Sx {A:List aa} {id n fl bytes:Nat} {nl:Bool} {h:Xd} {l:List (Int×Int)} (hg:A[id]? =some (xc l fl nl)) (hn:n=l.length) (hr:Cb (n+1) bytes) (p:Int×Int):
 Hc A true h 2 true bytes (.own id n) (.pv (.lit 2 [pr p]))=some (.own id (n+1),A.set id (xc (l++[p]) fl false)):=by
 subst hn
 have hl:=ug l
 have e:Bf (Nd (l++[p]))=Bf (Nd l)++[.pv (i64 p.1),.pv (i64 p.2)]:=by
  simp[Bf,Nd,vA]
 simp only[Hc,if_true,hg,xc,Ye,Vi,Pe,Option.map_some,Option.bind_some,flat,PV.cells,pr,List.append_nil,List.map_cons,List.map_nil,List.length_cons,List.length_nil,e]
 rw[if_pos]
 ·simp
 ·exact⟨trivial,by omega,hr,rfl⟩
theorem FD (H:List aa) (d:Nat) (l:List PV):Wa (Bb H d) (l.map .pv)=some l:=by
 induction l with
 |nil=>rfl
 |cons a l ih=>simp only[List.map_cons,Wa,Be,Option.bind_some,ih]
theorem Qx:∀ (l:List (Int×Int)),chunk 2 true l.length ((l.map vA).flatten)=Td l
 | []=>rfl
 |p::l=>by
  have ih:=Qx l
  simp only[List.length_cons,List.map_cons,List.flatten_cons,chunk,if_true,vA] at ih ⊢
  simp only[List.cons_append,List.nil_append,List.take_succ_cons,List.take_zero,List.drop_succ_cons,List.drop_zero,Td,List.map_cons]
  rw[ih]
theorem aL {A:List aa} {id n fl:Nat} {nl:Bool} {l:List (Int×Int)} (hg:A[id]? =some (xc l fl nl)) (hn:n=l.length) (d:Nat):Bb A (d+1) (.own id n)=some (if nl then .qa else .lit 2 (Td l)):=by
 subst hn
 have hl:=ug l
 have e:Bf (Nd l)=((l.map vA).flatten).map .pv:=by simp[Bf,Nd]
 simp only[Bb,hg,xc,Ye]
 rw[if_pos ⟨by omega,rfl⟩,e,FD]
 cases nl with
 |true=>rfl
 |false=>simp only[Bool.false_eq_true,if_false,Option.map_some,Qx]
theorem Ju (A:List aa) (x y:AV) (p:Int×Int):Pa (A++[.box [x,y]]) 2 (.ptr A.length 0) (.pv (pr p))=some (A++[.box [.pv (i64 p.1),.pv (i64 p.2)]]):=by
 simp only[Pa,AV.cells,PV.cells,pr,List.map_cons,List.map_nil,List.length_cons,List.length_nil,List.all,AV.one,nh,gl]
 simp[oa]
theorem ow (A:List aa) (p:Int×Int):na (A++[.box [.pv (i64 p.1),.pv (i64 p.2)]]) true 2 (.ptr A.length 0)=some (.pv (pr p)):=by
 simp[na,ng,Uo,Bc]
theorem Ym (l:List (Int×Int)) (fl:Nat) (nl:Bool) (n:Nat):pa n (xc l fl nl)=some (xc l fl nl):=ft _ _ _ _ _
abbrev gJ (v:PV) (id n len i:Nat):Tr:=(((Tr.lf.set 11 (.pv (i64 i))).set 10 (.pv (i64 len))).set 9 (.pv v)).set 3 (.own id n)
theorem Oo (A:List aa) {l:List (Int×Int)} {i:Nat} (hi:i < l.length):ma A 2 (.pv (.lit 2 (Td l))) (i:Int)=some (.pv (.rp [i64 l[i].1,i64 l[i].2] 0)):=by
 have hg:=Tn hi
 simp only[ma]
 rw[if_pos (by unfold Ca;simp;omega),Int.toNat_natCast,hg];rfl
theorem iN (A:List aa) (p:Int×Int):na A true 2 (.pv (.rp [i64 p.1,i64 p.2] 0))=some (.pv (pr p)):=by
 simp[na,Gk]
theorem wH (call:Fa) (v:PV) (l:List (Int×Int)) (hv:Bh 2 v (Td l)) (hw:l.length * 16≤140737488355328) (H:List aa) (hH:Kc H):
 Gd call pc [.pv v] H=some (.own H.length l.length,H++[xc l 0 false]):=by
 have ls:=hv.len
 simp only[Td,List.length_map] at ls
 have hid:H.length < H.length+1:=Nat.lt_succ_self _
 have hlen:∀ l',(H++[xc l' 0 false]).length=H.length+1:=fun l'=>by simp
 have hcut:∀ l',Wa (pa (H.length+1)) (H++[xc l' 0 false])=some (H++[xc l' 0 false]):=fun l'=>lj fun o ho=>by
  rcases List.mem_append.1 ho with h | h
  ·exact hH _ (by omega) o h
  ·simp at h;subst h;exact Ym _ _ _ _
 have hloop:me (fun r=>∃ E,r=(.exit 0,⟨E,H++[xc l 0 false]⟩)∧E.get 3= .own H.length l.length)
  (Fb (fa (ga call Tb) (xa (H.length+1) [3,9,10,11])) wa ⟨gJ v H.length 0 l.length 0,H++[xc [] 0 false]⟩):=by
  refine Xa (Ue (g:=fa (ga call Tb) (xa (H.length+1) [3,9,10,11]))
   (fun i t=>t=⟨gJ v H.length i l.length i,H++[xc (l.take i) 0 false]⟩)
   l.length (by unfold wa;omega) _ rfl ?_ ?_) (fun r h=>h.2)
  ·rintro i t hi rfl
   have hv:=hv.lit (i:=i) (by simpa using hi)
   subst hv
   have e1:decide ((i:Int) < (l.length:Int))=true:=db (by omega)
   have t2:=Ab hi (by unfold maxLen;omega)
   have a1:=Oo (H++[xc (l.take i) 0 false]) hi
   have l1:=iN (H++[xc (l.take i) 0 false]) l[i]
   have s1:=Ju (H++[xc (l.take i) 0 false]) (.pv (i64 0)) (.pv (i64 0)) l[i]
   have l2:=ow (H++[xc (l.take i) 0 false]) l[i]
   have hap:=Sx (A:=H++[xc (l.take i) 0 false]++[.box [.pv (i64 l[i].1),.pv (i64 l[i].2)]]) (id:=H.length) (n:=i) (h:= .own) (bytes:=16) (by rw[List.getElem?_append_left (by simp)];exact nh _ _) (by simp;omega) (by unfold Cb;omega) l[i]
   rw[List.set_append_left _ _ (by simp),gl,←List.take_succ_eq_append_getElem hi] at hap
   have htk:(H++[xc (l.take (i+1)) 0 false]++[aa.box [.pv (i64 l[i].1),.pv (i64 l[i].2)]]).take (H.length+1)=H++[xc (l.take (i+1)) 0 false]:=by
    rw[List.take_append_of_le_length (by simp),List.take_of_length_le (by simp)]
   have hc:=hcut (l.take (i+1))
   generalize l[i]=p at *
   generalize hQ:LN _ _ i=Q
   simp -implicitDefEqProofs only[SP,WP,oa,sevalprocAttr,Tb,e1,t2,a1,l1,s1,l2,hap,htk,hc,hid,xa,Ra,AV.cut,Ta,gJ]
   subst hQ
   rfl
  ·rintro t rfl
   rw[List.take_length]
   have e1:decide ((l.length:Int) < (l.length:Int))=false:=mb (by omega)
   generalize hQ:(fun r:Ex×St=>r.1.stop=true∧_)=Q
   simp -implicitDefEqProofs only[SX,sevalprocAttr,Tb,e1,gJ]
   subst hQ
   exact⟨rfl,_,rfl,by simp[Tr.ba]⟩
 have h2:(0:Int)≤(l.length:Int):=by omega
 have h3:Cb l.length 16:=by unfold Cb;omega
 have n0:(0:Int).toNat=0:=rfl
 have ho:aa.seq 2 true [] 0 false=xc [] 0 false:=rfl
 apply aA
 simp -implicitDefEqProofs only[SX,sevalprocAttr,pc,Tc,ls,Int.le_refl,eq_true h2,eq_true h3,n0,ho,hlen,hcut,hid,List.take_of_length_le (show (H++[xc [] 0 false]).length≤H.length+1 by simp),xa,Ra,AV.cut,Ta]
 refine Xa hloop ?_
 rintro _ ⟨E,rfl,hE⟩
 simp -implicitDefEqProofs only[SX,sevalprocAttr,hE]
end Go.AM.B1
namespace Go.AM.B1
open Go.AM Go.AM.So
theorem Kk {A:List aa} {id n sz bytes:Nat} {nl ag:Bool} {h:Xd} {es:List PV} (hg:A[id]? =some (.tok sz n nl)) (hn:n=es.length) (hr:Cb (n+1) bytes) (e:PV):
 Hc A false h sz ag bytes (.uq id nl sz es) (.pv (.lit sz [e]))=some (.uq id false sz (es++[e]),A.set id (.tok sz (n+1) false)):=by
 subst hn
 simp only[Hc,Bool.false_eq_true,if_false,hg,Pe,if_true,Option.bind_some,List.length_cons,List.length_nil]
 rw[if_pos ⟨trivial,trivial,trivial,hr⟩]
 simp
abbrev xJ (id n i tk:Nat) (nl:Bool) (es:List PV):Tr:=(((Tr.lf.set 11 (.pv (i64 i))).set 10 (.pv (i64 n))).set 9 (.own id n)).set 3 (.uq tk nl 2 es)
theorem OJ {A:List aa} {id fl:Nat} {nl:Bool} {l:List (Int×Int)} (hg:A[id]? =some (xc l fl nl)) (hf:fl≤l.length * 2) (hA:Kc A):Hp id 2 KR A (Nd l) A:=
 Hp.refl (fl:=fl) (nl:=nl) hA (by rw[Fl];exact hf) hg (uw l)
theorem gA {l:List (Int×Int)} {i:Nat} (hi:i < l.length):(Nd l)[i]! =vA l[i]:=by
 rw[RS (by rw[Fl];exact hi)];simp[Nd]
theorem HL (call:Fa) (l:List (Int×Int)) {id fl:Nat} {nl:Bool} (H:List aa) (hH:Kc H) (hg:H[id]? =some (xc l fl nl)) (hf:fl≤l.length * 2) (hw:l.length * 16≤140737488355328):
 Gd call Ac [.own id l.length] H=some (.uq H.length false 2 (Td l),H++[.tok 2 l.length false]):=by
 have hp:=OJ hg hf hH
 have hid:id < H.length:=hp.lt
 have hid1:id < H.length+1:=by omega
 have htk:H.length < H.length+1:=Nat.lt_succ_self _
 have hl:=ug l
 have hn:l.length=(Nd l).size:=(Fl l).symm
 have hlen:∀ m b,(H++[aa.tok 2 m b]).length=H.length+1:=fun m b=>by simp
 have hcut:∀ m b,Wa (pa (H.length+1)) (H++[aa.tok 2 m b])=some (H++[aa.tok 2 m b]):=fun m b=>lj fun o ho=>by
  rcases List.mem_append.1 ho with h | h
  ·exact hH _ (by omega) o h
  ·simp at h;subst h;rfl
 have hlA:∀ T,Mc (H++T) 0 (.own id l.length)=some l.length:=by
  intro T
  rw[bw,List.getElem?_append_left hid,hg]
  simp only[xc,Ye]
  rw[if_pos];unfold xg;omega
 have hlA0:Mc H 0 (.own id l.length)=some l.length:=by have:=hlA [];rwa [List.append_nil] at this
 have hloop:me (fun r=>∃ E,r=(.exit 0,⟨E,H++[.tok 2 l.length false]⟩)∧E.get 3= .uq H.length false 2 (Td l))
  (Fb (fa (ga call Vb) (xa (H.length+1) [3,9,10,11])) wa ⟨xJ id l.length 0 H.length false [],H++[.tok 2 0 false]⟩):=by
  refine Xa (Ue (g:=fa (ga call Vb) (xa (H.length+1) [3,9,10,11]))
   (fun i t=>t=⟨xJ id l.length i H.length false (Td (l.take i)),H++[.tok 2 i false]⟩)
   l.length (by unfold wa;omega) _ rfl ?_ ?_) (fun r h=>h.2)
  ·rintro i t hi rfl
   have e1:decide ((i:Int) < (l.length:Int))=true:=db (by omega)
   have t2:=Ab hi (by unfold maxLen;omega)
   have a1:=VC [.tok 2 i false] hid (hp.mg xt hn (i:=(i:Int)) rfl (by omega))
   have l1:=UG [.tok 2 i false] hid (hp.load xt hn (k:=i) (by omega))
   rw[gA hi] at l1
   have l1':na (H++[.tok 2 i false]) true 2 (.ic id (l.length * 2) (i * 2))=some (.pv (pr l[i])):=l1
   have s1:=Ju (H++[.tok 2 i false]) (.pv (i64 0)) (.pv (i64 0)) l[i]
   have l2:=ow (H++[.tok 2 i false]) l[i]
   have hap:=Kk (A:=H++[.tok 2 i false]++[.box [.pv (i64 l[i].1),.pv (i64 l[i].2)]]) (id:=H.length) (n:=i) (h:= .uq) (ag:=true) (nl:=false) (sz:=2) (bytes:=16) (es:=Td (l.take i)) (by rw[List.getElem?_append_left (by simp)];exact nh _ _) (by simp;omega) (by unfold Cb;omega) (pr l[i])
   have hs:Td (l.take (i+1))=Td (l.take i)++[pr l[i]]:=by rw[List.take_succ_eq_append_getElem hi];simp only[Td,List.map_append,List.map_cons,List.map_nil]
   rw[List.set_append_left _ _ (by simp),gl,←hs] at hap
   have htk2:(H++[aa.tok 2 (i+1) false]++[aa.box [.pv (i64 l[i].1),.pv (i64 l[i].2)]]).take (H.length+1)=H++[aa.tok 2 (i+1) false]:=by
    rw[List.take_append_of_le_length (by simp),List.take_of_length_le (by simp)]
   have hc:=hcut (i+1) false
   generalize l[i]=p at *
   generalize hes':Td (l.take (i+1))=es' at *
   generalize Td (l.take i)=es at *
   generalize hQ:LN _ _ i=Q
   simp -implicitDefEqProofs only[SP,WP,oa,sevalprocAttr,Vb,e1,t2,a1,l1',s1,l2,hap,htk,htk2,hc,hid1,xa,Ra,AV.cut,Ta,xJ]
   subst hQ
   subst hes'
   rfl
  ·rintro t rfl
   rw[List.take_length]
   have e1:decide ((l.length:Int) < (l.length:Int))=false:=mb (by omega)
   generalize hQ:(fun r:Ex×St=>r.1.stop=true∧_)=Q
   simp -implicitDefEqProofs only[SX,sevalprocAttr,Vb,e1,xJ]
   subst hQ
   exact⟨rfl,_,rfl,by simp[Tr.ba]⟩
 have h2:(0:Int)≤(l.length:Int):=by omega
 have h3:Cb l.length 16:=by unfold Cb;omega
 have n0:(0:Int).toNat=0:=rfl
 apply aA
 simp -implicitDefEqProofs only[SX,sevalprocAttr,Ac,Tc,hlA,hlA0,Int.le_refl,eq_true h2,eq_true h3,n0,hlen,hcut,hid1,htk,List.take_of_length_le (show (H++[aa.tok 2 0 false]).length≤H.length+1 by simp),xa,Ra,AV.cut,Ta]
 refine Xa hloop ?_
 rintro _ ⟨E,rfl,hE⟩
 simp -implicitDefEqProofs only[SX,sevalprocAttr,hE]
def Dh (x:Int) (l:List (Int×Int)):Prop:=∃ p∈l,p.1≤x∧x≤p.2
end Go.AM.B1
namespace Go.AM.B1
open Go.AM Go.AM.So
def Kf:List (Int×Int)→List (Int×Int)→List (Int×Int)
 |out,[]=>out
 |out,r::rest=>match out.getLast? with
  |some q=>if r.1≤q.2+1 then Kf (out.dropLast++[(q.1,if r.2 > q.2 then r.2 else q.2)]) rest else Kf (out++[r]) rest
  |none=>Kf (out++[r]) rest
theorem YC (r:Int×Int) (rest:List (Int×Int)):Kf [] (r::rest)=Kf [r] rest:=rfl
theorem Vz {out rest:List (Int×Int)} {q r:Int×Int} (h:r.1≤q.2+1):Kf (out++[q]) (r::rest)=Kf (out++[(q.1,if r.2 > q.2 then r.2 else q.2)]) rest:=by
 rw[Kf,List.getLast?_append];simp[h]
theorem GC {out rest:List (Int×Int)} {q r:Int×Int} (h:¬r.1≤q.2+1):Kf (out++[q]) (r::rest)=Kf (out++[q]++[r]) rest:=by
 rw[Kf,List.getLast?_append];simp[h]
section
variable {A:List aa} {id fl:Nat} {nl:Bool} {out:List (Int×Int)} {q:Int×Int} (hg:A[id]? =some (xc (out++[q]) fl nl)) (hf:fl≤(out.length+1) * 2)
include hg hf
theorem DI:ma A 2 (.own id (out.length+1)) (out.length:Int)=some (.ic id ((out.length+1) * 2) (out.length * 2)):=by
 have hl:=ug (out++[q])
 rw[List.length_append,List.length_cons,List.length_nil] at hl
 simp only[ma,hg,xc,Ye]
 rw[if_pos (by refine⟨trivial,?_,?_⟩ <;> first | (unfold Ca;omega) | (unfold xg;omega))]
 simp
omit hf in
theorem XI:place A 1 (.ic id ((out.length+1) * 2) (out.length * 2))=some (.ic id ((out.length+1) * 2) (out.length * 2+1)):=by
 have hl:=ug (out++[q])
 rw[List.length_append,List.length_cons,List.length_nil] at hl
 simp only[place,hg,xc,Ye,hl,if_true]
omit hf in
theorem UK:na A false 1 (.ic id ((out.length+1) * 2) (out.length * 2+1))=some (.pv (i64 q.2)):=by
 have hl:=ug (out++[q])
 rw[List.length_append,List.length_cons,List.length_nil] at hl
 simp only[na,hg,xc,Ye,hl,if_true,ng,Bool.false_eq_true,if_false]
 have e:Bf (Nd (out++[q]))=Bf (Nd out)++[.pv (i64 q.1),.pv (i64 q.2)]:=by simp[Bf,Nd,vA]
 have hl2:=ug out
 rw[e,List.getElem?_append_right (by omega),hl2]
 have:out.length * 2+1 - out.length * 2=1:=by omega
 rw[this];rfl
omit hf in
theorem SI (v:Int):Pa A 1 (.ic id ((out.length+1) * 2) (out.length * 2+1)) (.pv (i64 v))=some (A.set id (xc (out++[(q.1,v)]) ((out.length+1) * 2) nl)):=by
 have hl:=ug (out++[q])
 rw[List.length_append,List.length_cons,List.length_nil] at hl
 have e:∀ q:Int×Int,Bf (Nd (out++[q]))=Bf (Nd out)++[.pv (i64 q.1),.pv (i64 q.2)]:=fun q=>by simp[Bf,Nd,vA]
 have hl2:=ug out
 have hs:oa (Bf (Nd (out++[q]))) (out.length * 2+1) [.pv (i64 v)]=Bf (Nd (out++[(q.1,v)])):=by
  rw[e,e,oa,oa,List.set_append_right _ _ (by omega),hl2]
  have:out.length * 2+1 - out.length * 2=1:=by omega
  rw[this];rfl
 have hc:(AV.pv (i64 v)).cells=[.pv (i64 v)]:=rfl
 simp only[Pa,hg,xc,Ye,hc]
 rw[if_pos ⟨rfl,rfl⟩,if_pos ⟨hl,by omega⟩,hs]
end
abbrev gy (id0 n i id1 m:Nat):Tr:=(((Tr.lf.set 11 (.pv (i64 i))).set 10 (.pv (i64 n))).set 9 (.own id0 n)).set 3 (.own id1 m)
def OH (l:List (Int×Int)):Prop:=∀ p∈l,-4611686018427387904≤p.2∧p.2≤4611686018427387904
theorem xN {a b:List (Int×Int)} (ha:OH a) (hb:OH b):OH (a++b):=by
 intro p hp
 rcases List.mem_append.1 hp with h | h
 ·exact ha p h
 ·exact hb p h
theorem UL (call:Fa) (l:List (Int×Int)) (hl:OH l) {id0 fl0:Nat} {nl0:Bool} (H:List aa) (hH:Kc H) (hg0:H[id0]? =some (xc l fl0 nl0)) (hf0:fl0≤l.length * 2) (hw:l.length≤1000000):
 me (fun r=>∃ E fl nl,r=(.exit 0,⟨E,H++[xc (Kf [] l) fl nl]⟩)∧E.get 3= .own H.length (Kf [] l).length∧fl≤(Kf [] l).length * 2)
  (Fb (fa (ga call cg) (xa (H.length+1) [3,9,10,11])) wa ⟨gy id0 l.length 0 H.length 0,H++[xc [] 0 true]⟩):=by
 have hp:=OJ hg0 hf0 hH
 have hid:id0 < H.length:=hp.lt
 have hid1:id0 < H.length+1:=by omega
 have htk:H.length < H.length+1:=Nat.lt_succ_self _
 have hn:l.length=(Nd l).size:=(Fl l).symm
 have hcut:∀ a b c,Wa (pa (H.length+1)) (H++[xc a b c])=some (H++[xc a b c]):=fun a b c=>lj fun o ho=>by
  rcases List.mem_append.1 ho with h | h
  ·exact hH _ (by omega) o h
  ·simp at h;subst h;exact Ym _ _ _ _
 refine Xa (Ue (g:=fa (ga call cg) (xa (H.length+1) [3,9,10,11]))
  (fun i t=>∃ out fl nl,t=⟨gy id0 l.length i H.length out.length,H++[xc out fl nl]⟩∧fl≤out.length * 2∧OH out∧out.length≤i∧Kf [] l=Kf out (l.drop i))
  l.length (by unfold wa;omega) _ ⟨[],0,true,rfl,by omega,by intro p hp;simp at hp,by simp,rfl⟩ ?_ ?_) (fun r h=>h.2)
 ·rintro i t hi ⟨out,fl,nl,rfl,hfl,hsa,hle,hs⟩
  have hd:l.drop i=l[i]::l.drop (i+1):=List.drop_eq_getElem_cons hi
  rw[hd] at hs
  have hsp:=hl l[i] (List.getElem_mem hi)
  have e1:decide ((i:Int) < (l.length:Int))=true:=db (by omega)
  have t2:=Ab hi (by unfold maxLen;omega)
  have a1:=VC [xc out fl nl] hid (hp.mg xt hn (i:=(i:Int)) rfl (by omega))
  have l1:=UG [xc out fl nl] hid (hp.load xt hn (k:=i) (by omega))
  rw[gA hi] at l1
  have l1':na (H++[xc out fl nl]) true 2 (.ic id0 (l.length * 2) (i * 2))=some (.pv (pr l[i])):=l1
  have s1:=Ju (H++[xc out fl nl]) (.pv (i64 0)) (.pv (i64 0)) l[i]
  have l2:=ow (H++[xc out fl nl]) l[i]
  have b0:∀ p:Int×Int,place (H++[xc out fl nl]++[aa.box [.pv (i64 p.1),.pv (i64 p.2)]]) 0 (.ptr (H++[xc out fl nl]).length 0)=some (.ptr (H++[xc out fl nl]).length 0):=fun p=>by simp[place]
  have b1:∀ p:Int×Int,place (H++[xc out fl nl]++[aa.box [.pv (i64 p.1),.pv (i64 p.2)]]) 1 (.ptr (H++[xc out fl nl]).length 0)=some (.ptr (H++[xc out fl nl]).length 1):=fun p=>by simp[place]
  have b2:∀ p:Int×Int,na (H++[xc out fl nl]++[aa.box [.pv (i64 p.1),.pv (i64 p.2)]]) false 1 (.ptr (H++[xc out fl nl]).length 0)=some (.pv (i64 p.1)):=fun p=>by simp[na,ng]
  have b3:∀ p:Int×Int,na (H++[xc out fl nl]++[aa.box [.pv (i64 p.1),.pv (i64 p.2)]]) false 1 (.ptr (H++[xc out fl nl]).length 1)=some (.pv (i64 p.2)):=fun p=>by simp[na,ng]
  have hap:=Sx (A:=H++[xc out fl nl]++[.box [.pv (i64 l[i].1),.pv (i64 l[i].2)]]) (id:=H.length) (n:=out.length) (h:= .own) (bytes:=16) (by rw[List.getElem?_append_left (by simp)];exact nh _ _) rfl (by unfold Cb;omega) l[i]
  rw[List.set_append_left _ _ (by simp),gl] at hap
  have htk2:∀ (o o2:aa),(H++[o]++[o2]).take (H.length+1)=H++[o]:=fun o o2=>by
   rw[List.take_append_of_le_length (by simp),List.take_of_length_le (by simp)]
  have hlen:Mc (H++[xc out fl nl]++[.box [.pv (i64 l[i].1),.pv (i64 l[i].2)]]) 0 (.own H.length out.length)=some out.length:=by
   rw[bw,List.getElem?_append_left (by simp),nh]
   have:=ug out
   simp only[xc,Ye]
   rw[if_pos];unfold xg;omega
  rcases List.eq_nil_or_concat out with rfl | ⟨out,q,rfl⟩
  ·have hz:decide (((0:Nat):Int) > 0)=false:=by decide
   rw[YC] at hs
   rw[List.length_nil] at hap hlen
   rw[Nat.zero_add,List.nil_append] at hap
   generalize l[i]=p at *
   generalize hQ:LN _ _ i=Q
   simp -implicitDefEqProofs only[SP,WP,oa,sevalprocAttr,cg,e1,t2,a1,l1',s1,l2,hlen,hz,hap,htk2,hcut,hid1,htk,xa,Ra,AV.cut,Ta,gy]
   subst hQ
   exact⟨[p],fl,false,rfl,by simp at hfl ⊢;omega,by intro x hx;simp at hx;subst hx;exact hsp,by simp,hs⟩
  ·rw[List.concat_eq_append] at *
   have hql:=hsa q (by simp)
   have hol:(out++[q]).length=out.length+1:=by simp
   have hg1:(H++[xc (out++[q]) fl nl]++[aa.box [.pv (i64 l[i].1),.pv (i64 l[i].2)]])[H.length]? =some (xc (out++[q]) fl nl):=by rw[List.getElem?_append_left (by simp)];exact nh _ _
   have c1:=DI hg1 (by rw[hol] at hfl;exact hfl)
   have c2:=XI hg1
   have c3:=UK hg1
   have c4:=SI hg1 (if l[i].2 > q.2 then l[i].2 else q.2)
   rw[List.set_append_left _ _ (by simp),gl] at c4
   have t3:IntKind.i64.wrap (((out.length+1:Nat):Int) - 1)=(out.length:Int):=by rw[Da (by omega)];omega
   have t4:IntKind.i64.wrap (q.2+1)=q.2+1:=Da (by omega)
   have hz:decide (((out.length+1:Nat):Int) > 0)=true:=db (by omega)
   rw[hol] at hlen hap hfl hle
   by_cases hj:l[i].1≤q.2+1
   ·have e2:decide (l[i].1≤q.2+1)=true:=db hj
    rw[Vz hj] at hs
    generalize l[i]=p at *
    generalize hmx:(if p.2 > q.2 then p.2 else q.2)=mx at *
    generalize hQ:LN _ _ i=Q
    simp -implicitDefEqProofs only[SP,WP,oa,sevalprocAttr,cg,e1,t2,a1,l1',s1,l2,hol,hlen,hz,b0,b1,b2,b3,c1,c2,c3,c4,t3,t4,e2,Wn,zd,hmx,htk2,hcut,hid1,htk,xa,Ra,AV.cut,Ta,gy]
    subst hQ
    refine⟨out++[(q.1,mx)],(out.length+1) * 2,nl,by simp[gy,hol],by simp,?_,by simp;omega,hs⟩
    intro x hx
    rcases List.mem_append.1 hx with h | h
    ·exact hsa x (by simp[h])
    ·simp at h;subst h
     rw[← hmx];split <;> simp only <;> omega
   ·have e2:decide (l[i].1≤q.2+1)=false:=mb hj
    rw[GC hj] at hs
    generalize l[i]=p at *
    generalize hQ:LN _ _ i=Q
    simp -implicitDefEqProofs only[SP,WP,oa,sevalprocAttr,cg,e1,t2,a1,l1',s1,l2,hol,hlen,hz,b0,b1,b2,b3,c1,c2,c3,t3,t4,e2,hap,htk2,hcut,hid1,htk,xa,Ra,AV.cut,Ta,gy]
    subst hQ
    refine⟨out++[q]++[p],fl,false,by simp[gy],by simp;omega,?_,by simp;omega,hs⟩
    exact xN hsa (by intro x hx;simp at hx;subst hx;exact hsp)
 ·rintro t ⟨out,fl,nl,rfl,hfl,hsa,hle,hs⟩
  rw[List.drop_length,Kf] at hs
  have e1:decide ((l.length:Int) < (l.length:Int))=false:=mb (by omega)
  generalize hQ:(fun r:Ex×St=>r.1.stop=true∧_)=Q
  simp -implicitDefEqProofs only[SX,sevalprocAttr,cg,e1,gy]
  subst hQ
  rw[hs]
  exact⟨rfl,_,fl,nl,rfl,by simp[Tr.ba],hfl⟩
end Go.AM.B1
namespace Go.AM.B1
open Go.AM Go.AM.So
def Bu (last:Int) (a:List (Int×Int)):Int:=(a.getLast?.map (·.2)).getD last
theorem XF (last:Int) (p:Int×Int) (a:List (Int×Int)):Bu last (p::a)=Bu p.2 a:=by
 cases a with
 |nil=>rfl
 |cons q a=>simp[Bu,List.getLast?_cons]
theorem SE (last:Int) (a:List (Int×Int)) (q:Int×Int):Bu last (a++[q])=q.2:=by simp[Bu]
theorem Aq (top:Int):∀ (a b:List (Int×Int)) (last:Int),Ka top last (a++b)=(Ka top last a&&Ka top (Bu last a) b)
 | [],b,last=>by simp[Ka,Bu]
 |p::a,b,last=>by
  rw[List.cons_append,Ka,Ka,Aq top a b p.2,XF,Bool.and_assoc]
theorem sn {top last:Int} {p:Int×Int}:Ka top last [p]=true↔0≤p.1∧p.1≤p.2∧p.2≤top∧last < p.1 - 1:=by
 simp only[Ka,Bool.and_true,Bool.not_eq_true',Bool.or_eq_false_iff,decide_eq_false_iff_not]
 constructor <;> intro h <;> refine⟨?_,?_⟩ <;> omega
theorem Jp (x:Int) (a b:List (Int×Int)):Dh x (a++b)↔Dh x a∨Dh x b:=by
 unfold Dh
 simp only[List.mem_append]
 constructor
 ·rintro⟨p,h | h,hp⟩
  ·exact .inl ⟨p,h,hp⟩
  ·exact .inr ⟨p,h,hp⟩
 ·rintro (⟨p,h,hp⟩ | ⟨p,h,hp⟩)
  ·exact⟨p,.inl h,hp⟩
  ·exact⟨p,.inr h,hp⟩
theorem Ql (x:Int) (p:Int×Int):Dh x [p]↔p.1≤x∧x≤p.2:=by
 unfold Dh;simp
theorem lk (x:Int):¬Dh x []:=by unfold Dh;simp
theorem Fj (x:Int) (p:Int×Int) (l:List (Int×Int)):Dh x (p::l)↔(p.1≤x∧x≤p.2)∨Dh x l:=by
 unfold Dh;simp
theorem Yw {top:Int}:∀ (rest out:List (Int×Int)) (q:Int×Int),Ka top (-2) (out++[q])=true→(∀ p∈rest,0≤p.1∧p.1≤p.2∧p.2≤top∧q.1≤p.1)→rest.Pairwise (fun p q=>p.1≤q.1)→
 Ka top (-2) (Kf (out++[q]) rest)=true∧(∀ x,Dh x (Kf (out++[q]) rest)↔Dh x (out++[q])∨Dh x rest)∧(Kf (out++[q]) rest).length≤out.length+1+rest.length
 | [],out,q,hv,_,_=>by
   rw[Kf]
   exact⟨hv,fun x=>by simp[lk],by simp⟩
 |r::rest,out,q,hv,hr,hs=>by
  have h1:=hr r (by simp)
  rw[List.pairwise_cons] at hs
  have hv':=hv
  rw[Aq,Bool.and_eq_true,sn] at hv'
  by_cases hj:r.1≤q.2+1
  ·rw[Vz hj]
   have ih:=Yw rest out (q.1,if r.2 > q.2 then r.2 else q.2) (by
    rw[Aq,Bool.and_eq_true,sn]
    refine⟨hv'.1,hv'.2.1,?_,?_,hv'.2.2.2.2⟩ <;> simp only <;> split <;> omega) (fun p hp=>by
     have:=hr p (by simp[hp])
     exact⟨this.1,this.2.1,this.2.2.1,this.2.2.2⟩) hs.2
   refine⟨ih.1,fun x=> ?_,by have:=ih.2.2;simp only[List.length_cons];omega⟩
   rw[ih.2.1,Jp,Jp,Ql,Ql,Fj]
   have e:(q.1≤x∧x≤(if r.2 > q.2 then r.2 else q.2))↔(q.1≤x∧x≤q.2)∨(r.1≤x∧x≤r.2):=by
    split <;> constructor <;> intro h <;> omega
   simp only[e]
   constructor
   ·rintro ((h | h | h) | h)
    ·exact .inl (.inl h)
    ·exact .inl (.inr h)
    ·exact .inr (.inl h)
    ·exact .inr (.inr h)
   ·rintro ((h | h) | h | h)
    ·exact .inl (.inl h)
    ·exact .inl (.inr (.inl h))
    ·exact .inl (.inr (.inr h))
    ·exact .inr h
  ·rw[GC hj]
   have ih:=Yw rest (out++[q]) r (by
    rw[Aq,Bool.and_eq_true,sn,SE]
    exact⟨hv,h1.1,h1.2.1,h1.2.2.1,by omega⟩) (fun p hp=>by
     have h2:=hr p (by simp[hp])
     exact⟨h2.1,h2.2.1,h2.2.2.1,hs.1 p hp⟩) hs.2
   refine⟨ih.1,fun x=> ?_,by have:=ih.2.2;simp only[List.length_cons,List.length_append,List.length_nil] at this ⊢;omega⟩
   rw[ih.2.1,Jp,Ql,Fj]
   constructor
   ·rintro ((h | h) | h)
    ·exact .inl h
    ·exact .inr (.inl h)
    ·exact .inr (.inr h)
   ·rintro (h | h | h)
    ·exact .inl (.inl h)
    ·exact .inl (.inr h)
    ·exact .inr h
theorem NM {top:Int} (l:List (Int×Int)) (hr:∀ p∈l,0≤p.1∧p.1≤p.2∧p.2≤top) (hs:l.Pairwise (fun p q=>p.1≤q.1)):
 Ka top (-2) (Kf [] l)=true∧(∀ x,Dh x (Kf [] l)↔Dh x l)∧(Kf [] l).length≤l.length:=by
 cases l with
 |nil=>exact⟨rfl,fun x=>Iff.rfl,Nat.le_refl _⟩
 |cons r rest=>
  rw[YC]
  have h1:=hr r (by simp)
  rw[List.pairwise_cons] at hs
  have:=Yw rest [] r (by rw[List.nil_append,sn];exact⟨h1.1,h1.2.1,h1.2.2,by omega⟩) (fun p hp=>by
   have h2:=hr p (by simp[hp])
   exact⟨h2.1,h2.2.1,h2.2.2,hs.1 p hp⟩) hs.2
  rw[List.nil_append] at this
  refine⟨this.1,fun x=> ?_,by have:=this.2.2;simp at this ⊢;omega⟩
  rw[this.2.1,Ql,Fj]
theorem Jm {top:Int}:∀ {l:List (Int×Int)} {last:Int},Ka top last l=true→∀ p∈l,0≤p.1∧p.1≤p.2∧p.2≤top
 |q::l,last,h,p,hp=>by
  obtain⟨h1,h2,h3,h4,h5⟩:=Zc h
  rcases List.mem_cons.1 hp with rfl | hp
  ·exact⟨by omega,by omega,by omega⟩
  ·exact Jm h5 p hp
theorem Uv:∀ (l:List (Int×Int)),Bf (Nd l)=de (l.flatMap fun p=>[p.1,p.2])
 | []=>rfl
 |p::l=>by
  have h:=Uv l
  simp only[Bf,Nd,de] at h ⊢
  simp[vA,h]
theorem Lz:∀ (l:List (Int×Int)),Df 2 l.length (l.flatMap fun p=>[p.1,p.2])=l.map fun p=>[p.1,p.2]
 | []=>rfl
 |p::l=>by
  rw[List.length_cons,Df,List.flatMap_cons,List.map_cons,←Lz l];rfl
theorem LM {l:List (Int×Int)} (hw:l.length < 50) {H:List aa} {id fl:Nat} {nl:Bool} (hg:H[id]? =some (xc l fl nl)):
 ∃ l',l'.Perm l∧l'.Pairwise (fun p q=>p.1≤q.1)∧mv 2 0 23 [.own id l.length,.mi 23 []] H=some (.pv (.dc []),H.set id (xc l' (l.length * 2) nl)):=by
 obtain⟨s1,s2,s3⟩:=Uu 2 0 (l.map fun p=>[p.1,p.2]).toArray
 have hso:∀ F,FA (Bf (Nd l))=some F→Df 2 l.length F=l.map fun p=>[p.1,p.2]:=by
  intro F hF
  rw[Uv,pq] at hF
  injection hF with hF
  rw[← hF,Lz]
 generalize hE:Ol 2 0 (l.map fun p=>[p.1,p.2]).toArray=E at *
 have hEl:∃ l':List (Int×Int),E.toList=l'.map fun p=>[p.1,p.2]:=by
  have key:∀ (L:List (List Int)),(∀ r∈L,∃ p:Int×Int,r=[p.1,p.2])→∃ l':List (Int×Int),L=l'.map fun p=>[p.1,p.2]:=by
   intro L
   induction L with
   |nil=>intro _;exact⟨[],rfl⟩
   |cons r L ih=>
    intro h
    obtain⟨p,rfl⟩:=h r (by simp)
    obtain⟨l',rfl⟩:=ih fun x hx=>h x (by simp[hx])
    exact⟨p::l',rfl⟩
  refine key _ fun r hr=> ?_
  have:=s2.mem_iff.1 hr
  simp only[List.mem_map] at this
  obtain⟨p,_,rfl⟩:=this
  exact⟨p,rfl⟩
 obtain⟨l',hl'⟩:=hEl
 have hs:E.size=l.length:=by rw[s1];simp
 have hll:l'.length=l.length:=by rw[← hs,←Array.length_toList,hl',List.length_map]
 refine⟨l',?_,?_,?_⟩
 ·rw[hl'] at s2
  have:=s2.map fun r=>(r.getD 0 0,r.getD 1 0)
  simpa[List.map_map,Function.comp_def] using this
 ·rw[List.pairwise_iff_getElem]
  intro i j hi hj hij
  have h:=s3 i j hij (by simp;omega)
  have hg:∀ q (hq:q < l'.length),Gs 2 0 E[q]! =l'[q].1:=by
   intro q hq
   have h1:q < E.size:=by omega
   have:E[q]=[l'[q].1,l'[q].2]:=by
    have h2:E.toList[q]? =some [l'[q].1,l'[q].2]:=by rw[hl',List.getElem?_map,List.getElem?_eq_getElem hq];rfl
    rw[Array.getElem?_toList,Array.getElem?_eq_getElem h1] at h2
    exact Option.some.inj h2
   rw[getElem!_pos E q h1,this];rfl
  rw[hg i hi,hg j hj] at h
  omega
 ·have hfl:=ug l
  unfold mv
  simp only[hg,xc,Ye]
  rw[if_pos ⟨trivial,trivial,by rw[hfl],by omega⟩]
  have hF:=Uv l
  have hI:=pq (l.flatMap fun p=>[p.1,p.2])
  rw[← hF] at hI
  rw[hI,Option.map_some,hso _ hI,hE,hl',hfl]
  have e:de (List.map (fun p:Int×Int=>[p.1,p.2]) l').flatten=Bf (Nd l'):=by rw[Uv,List.flatMap_def]
  rw[e]
theorem oL (d:Nat) (args:List AV) (H:List aa):Gf Mh eb (d+1) 22 args H=mv 2 0 23 args H:=rfl
theorem TN (l:List (Int×Int)) (hl:OH l) {id0 fl0:Nat} {nl0:Bool} (H:List aa) (hH:Kc H) (hg0:H[id0]? =some (xc l fl0 nl0)) (hf0:fl0≤l.length * 2) (hw:l.length < 50):
 me (fun r=>∃ l' fl nl,l'.Perm l∧l'.Pairwise (fun p q=>p.1≤q.1)∧r.1= .own (r.2.length - 1) (Kf [] l').length∧Kc r.2∧r.2[r.2.length - 1]? =some (xc (Kf [] l') fl nl)∧fl≤(Kf [] l').length * 2)
  (Gd (Gf Mh eb 7) rl [.own id0 l.length] H):=by
 obtain⟨l',hpl,hps,hst⟩:=LM hw hg0
 have hid0:=(List.getElem?_eq_some_iff.1 hg0).1
 have hs2:l'.length=l.length:=hpl.length_eq
 have hg:(H.set id0 (xc l' (l.length * 2) nl0))[id0]? =some (xc l' (l.length * 2) nl0):=List.getElem?_set_self hid0
 have hgd:Kc (H.set id0 (xc l' (l.length * 2) nl0)):=by
  intro n hn o ho
  rcases List.mem_or_eq_of_mem_set ho with h | h
  ·exact hH n (by simpa using hn) o h
  ·subst h;exact Ym _ _ _ _
 have hfl:l.length * 2≤l'.length * 2:=by omega
 simp -implicitDefEqProofs only[SX,sevalprocAttr,rl,oL,hst]
 generalize H.set id0 (xc l' (l.length * 2) nl0)=H2 at *
 have hl':OH l':=fun p hpp=>hl p (hpl.mem_iff.1 hpp)
 have hlp:=UL (Gf Mh eb 7) l' hl' H2 hgd hg hfl (by omega)
 rw[hs2] at hlp
 have hlen:Mc (H2++[xc [] 0 true]) 0 (.own id0 l.length)=some l.length:=by
  have hid:id0 < H2.length:=(List.getElem?_eq_some_iff.1 hg).1
  have:=ug l'
  rw[bw,List.getElem?_append_left hid,hg]
  simp only[xc,Ye]
  unfold Bf at this ⊢
  rw[if_pos];unfold xg;omega
 have hg2:H2.length < H2.length+1:=Nat.lt_succ_self _
 have hid1:id0 < H2.length+1:=by have:=(List.getElem?_eq_some_iff.1 hg).1;omega
 have hgood:Kc (H2++[xc [] 0 true]):=by
  intro n hn o ho
  rcases List.mem_append.1 ho with h | h
  ·exact hgd n (by simp at hn;omega) o h
  ·simp at h;subst h;exact Ym _ _ _ _
 have hcut:=Kc.cut hgood
 have hlen1:(H2++[xc [] 0 true]).length=H2.length+1:=by simp
 rw[hlen1] at hcut
 have hz:(0 < 2)=True:=by simp
 have ho:aa.seq 2 true [] 0 true=xc [] 0 true:=rfl
 simp -implicitDefEqProofs only[SX,sevalprocAttr,Tc,gf,hz,ho,hlen,hlen1,hcut,hg2,hid1,List.take_of_length_le (show (H2++[xc [] 0 true]).length≤H2.length+1 by simp),xa,Ra,AV.cut,Ta]
 refine Xa hlp ?_
 rintro _ ⟨E,fl2,nl2,rfl,hE,hfl2⟩
 simp -implicitDefEqProofs only[SX,sevalprocAttr,hE]
 refine⟨l',fl2,nl2,hpl,hps,by simp,?_,by simp,hfl2⟩
 intro n hn o ho
 rcases List.mem_append.1 ho with h | h
 ·exact hgd n (by simp at hn;omega) o h
 ·simp at h;subst h;exact Ym _ _ _ _
end Go.AM.B1
namespace Go.AM.B1
open Go.AM Go.AM.So
abbrev Gu:Int:=1073741823
theorem qK {A:List aa} {id1 id2 n1 n2 f1 f2 bytes:Nat} {k1 k2:Bool} {h:Xd} {a b:List (Int×Int)} (h1:A[id1]? =some (xc a f1 k1)) (h2:A[id2]? =some (xc b f2 k2)) (hn1:n1=a.length) (hn2:n2=b.length) (hr:Cb (n1+n2) bytes):
 ∃ k,Hc A true h 2 true bytes (.own id1 n1) (.own id2 n2)=some (.own id1 (n1+n2),A.set id1 (xc (a++b) f1 k)):=by
 subst hn1 hn2
 have la:=ug a
 have lb:=ug b
 have e:Bf (Nd (a++b))=Bf (Nd a)++Bf (Nd b):=by simp[Bf,Nd]
 have hone:(Bf (Nd b)).all AV.one=true:=by
  rw[List.all_eq_true]
  intro v hv
  obtain⟨c,hc,rfl⟩:=List.mem_map.1 hv
  rw[List.mem_flatten] at hc
  obtain⟨r,hr,hc⟩:=hc
  exact (xt r (uw b r hr)).2 c hc
 refine⟨k1&&(b.length==0),?_⟩
 simp only[Hc,if_true,h1,xc,Ye,Vi,h2,e]
 rw[if_pos ⟨trivial,by omega⟩]
 simp only[Option.bind_some]
 rw[if_pos ⟨trivial,by omega,hr,hone⟩]
theorem om (v:PV) (l:List (Int×Int)) (hv:Bh 2 v (Td l)) (hw:l.length * 16≤140737488355328) (hval:Ka Gu (-2) l=true) (H:List aa) (hH:Kc H):
 Gd (Gf Mh eb 7) Kg [.pv v] H=some (.own H.length l.length,H++[xc l 0 false]):=by
 have h1:=wH (Gf Mh eb 6) v l hv hw H hH
 have h2:=Gp (.lit 2 (Td l)) l (.inr rfl) (by unfold maxLen;omega) Gu (by decide)
 rw[hval] at h2
 have h0:∀ args H,Gf Mh eb 7 0 args H=Gd (Gf Mh eb 6) pc args H:=fun _ _=>rfl
 have h3:=aL (A:=H++[xc l 0 false]) (id:=H.length) (n:=l.length) (nh _ _) rfl 5
 rw[if_neg (by simp)] at h3
 simp -implicitDefEqProofs only[SX,sevalprocAttr,Kg,h0,h1,h2,h3]
theorem eI {H:List aa} (hH:Kc H) {o:aa} (ho:∀ n,pa n o=some o):Kc (H++[o]):=by
 intro n hn x hx
 rcases List.mem_append.1 hx with h | h
 ·exact hH n (by simp at hn;omega) x h
 ·simp at h;subst h;exact ho n
theorem CM (A B:PV) (a b:List (Int×Int)) (hA:Bh 2 A (Td a)) (hB:Bh 2 B (Td b)) (hva:Ka Gu (-2) a=true) (hvb:Ka Gu (-2) b=true) (hl:a.length+b.length < 50):
 ∃ u,mj [A,B]=some (.lit 2 (Td u))∧Ka Gu (-2) u=true∧(∀ x,Dh x u↔Dh x a∨Dh x b)∧u.length≤a.length+b.length:=by
 have h1:=om A a hA (by omega) hva [] (by intro n _ o ho;simp at ho)
 have hg1:Kc ([]++[xc a 0 false]):=eI (by intro n _ o ho;simp at ho) (Ym _ _ _)
 have h2:=om B b hB (by omega) hvb ([]++[xc a 0 false]) hg1
 obtain⟨k,h3⟩:=qK (A:=[xc a 0 false,xc b 0 false]) (id1:=0) (id2:=1) (n1:=a.length) (n2:=b.length) (bytes:=16) (h:= .own) rfl rfl rfl rfl (by unfold Cb;omega)
 have hg3:Kc [xc (a++b) 0 k,xc b 0 false]:=by
  intro n _ o ho
  simp at ho
  rcases ho with rfl | rfl <;> exact Ym _ _ _ _
 have ra:=Jm hva
 have rb:=Jm hvb
 have rab:∀ p∈a++b,0≤p.1∧p.1≤p.2∧p.2≤Gu:=fun p hp=>by
  rcases List.mem_append.1 hp with h | h
  ·exact ra p h
  ·exact rb p h
 have h4:=TN (a++b) (fun p hp=>by have:=rab p hp;unfold Gu at this;omega) (id0:=0) [xc (a++b) 0 k,xc b 0 false] hg3 rfl (by omega) (by simp;omega)
 obtain⟨⟨v,H4⟩,e4,l',fl,nl,hpl,hps,hv,hg4,hget,hfl⟩:=qd h4
 dsimp only at hv hg4 hget
 subst hv
 have law:=NM (top:=Gu) l' (fun p hp=>rab p (hpl.mem_iff.1 hp)) hps
 have hll:(Kf [] l').length≤a.length+b.length:=by have:=hpl.length_eq;simp at this;omega
 have h5:=HL (Gf Mh eb 6) (Kf [] l') H4 hg4 hget hfl (by omega)
 have hmem:∀ x,Dh x (Kf [] l')↔Dh x a∨Dh x b:=by
  intro x
  rw[law.2.1,←Jp]
  unfold Dh
  constructor
  ·rintro⟨p,h,hx⟩;exact⟨p,hpl.mem_iff.1 h,hx⟩
  ·rintro⟨p,h,hx⟩;exact⟨p,hpl.mem_iff.2 h,hx⟩
 refine⟨Kf [] l',?_,law.1,hmem,hll⟩
 generalize Kf [] l'=u at *
 simp only[List.nil_append,List.length_nil,List.cons_append,List.length_cons,Nat.zero_add] at h1 h2 h3
 rw[List.set_cons_zero] at h3
 have c1:∀ args H,Gf Mh eb 8 1 args H=Gd (Gf Mh eb 7) Kg args H:=fun _ _=>rfl
 have c24:∀ args H,Gf Mh eb 8 24 args H=Gd (Gf Mh eb 7) rl args H:=fun _ _=>rfl
 have c3:∀ args H,Gf Mh eb 8 3 args H=Gd (Gf Mh eb 7) Wh args H:=fun _ _=>rfl
 have c2:∀ args H,Gf Mh eb 7 2 args H=Gd (Gf Mh eb 6) Ac args H:=fun _ _=>rfl
 have hab:(a++b).length=a.length+b.length:=by simp
 rw[hab] at e4
 simp -implicitDefEqProofs only[mj,FG,SP,WP,oa,sevalprocAttr,cm,c1,h1,h2,h3,c24,e4,c3,Wh,c2,h5]
theorem br (v:PV) (l:List (Int×Int)) (hv:Bh 2 v (Td l)) (hw:l.length * 16≤140737488355328) (hval:Ka Gu (-2) l=true):gj [v]=some (.lit 2 (Td l)):=by
 have h1:=yj v l hv hw
 rw[← jH] at h1
 have h2:=Gp (.lit 2 (Td l)) l (.inr rfl) (by unfold maxLen;omega) Gu (by decide)
 rw[hval] at h2
 simp -implicitDefEqProofs only[gj,SP,SA,SQ,sevalprocAttr,vo,Be,Rb,h1,h2]
def ve:Nat→List (Int×Int)→List (Int×Int)→List (Int×Int)
 |0,_,_=>[]
 |n+1,a,b=>match a,b with
  |p::a',q::b'=>(if (if q.1 > p.1 then q.1 else p.1)≤(if q.2 < p.2 then q.2 else p.2) then [((if q.1 > p.1 then q.1 else p.1),(if q.2 < p.2 then q.2 else p.2))] else [])++(if p.2 < q.2 then ve n a' (q::b') else ve n (p::a') b')
  |_,_=>[]
abbrev Vs (va vb:PV) (tk:Nat) (nl:Bool) (es:List PV):Tr:=((Tr.lf.set 5 (.uq tk nl 2 es)).set 1 (.pv vb)).set 0 (.pv va)
theorem Bh.zR {v:PV} {p:PV} {es:List PV} (h:Bh 2 v (p::es)):∀ H,Ed H 2 (.pv v) (some 1) none=some (.pv (.lit 2 es)):=by
 intro H
 rcases h with⟨_,h⟩ | rfl
 ·cases h
 ·simp[Ed]
  omega
theorem VF (A B:PV) (a b:List (Int×Int)) (hA:Bh 2 A (Td a)) (hB:Bh 2 B (Td b)) (hw:(a.length+b.length) * 16≤140737488355328):
 ∃ u,Gj [A,B]=some u∧Bh 2 u (Td (ve (a.length+b.length) a b)):=by
 have hloop:me (fun r=>∃ E H nl,r=(.exit 0,⟨E,H⟩)∧E.get 5= .uq 0 nl 2 (Td (ve (a.length+b.length) a b))∧(nl=true→ve (a.length+b.length) a b=[]))
  (Fb (fa (ga (za (fun _=>none) 8) Fe) (xa 1 [0,1,5])) wa ⟨Vs A B 0 true [],[.tok 2 0 true]⟩):=by
  refine Xa (Rv (g:=fa (ga (za (fun _=>none) 8) Fe) (xa 1 [0,1,5]))
   (fun m t=>∃ va vb a' b' nl out,m=a'.length+b'.length∧Bh 2 va (Td a')∧Bh 2 vb (Td b')∧t=⟨Vs va vb 0 nl (Td out),[.tok 2 out.length nl]⟩∧out.length+m≤a.length+b.length∧(nl=true→out=[])∧ve (a.length+b.length) a b=out++ve m a' b')
   wa (a.length+b.length) _ (by unfold wa;omega) ⟨A,B,a,b,true,[],rfl,hA,hB,rfl,by simp,fun _=>rfl,rfl⟩ ?_) (fun r h=>h.2)
  rintro m t ⟨va,vb,a',b',nl,out,rfl,ha,hb,rfl,hlen,hnl,hs⟩
  have la:=ha.len
  have lb:=hb.len
  simp only[Td,List.length_map] at la lb
  cases a' with
  |nil=>
   have hs':ve (a.length+b.length) a b=out:=by
    rw[hs];cases b' <;> simp[ve]
   have z1:decide (((([]:List (Int×Int)).length:Nat):Int) > 0)=false:=by decide
   generalize hQ:LQ _ _ _=Q
   simp -implicitDefEqProofs only[SX,sevalprocAttr,Fe,la,z1,Vs]
   subst hQ
   rw[hs']
   exact⟨_,_,nl,rfl,by simp[Tr.ba],hnl⟩
  |cons p a'=>
   have z1:decide ((((p::a').length:Nat):Int) > 0)=true:=db (by simp)
   cases b' with
   |nil=>
    have hs':ve (a.length+b.length) a b=out:=by
     rw[hs];simp[ve]
    have z2:decide (((([]:List (Int×Int)).length:Nat):Int) > 0)=false:=by decide
    generalize hQ:LQ _ _ _=Q
    have la':∀ H,Mc H 0 (.pv va)=some (a'.length+1):=la
    have z1':decide ((((a'.length+1):Nat):Int) > 0)=true:=z1
    have lb':∀ H,Mc H 0 (.pv vb)=some 0:=lb
    have z2':decide (((0:Nat):Int) > 0)=false:=z2
    simp -implicitDefEqProofs only[SX,sevalprocAttr,Fe,la',lb',z1',z2',Vs]
    subst hQ
    rw[hs']
    exact⟨_,_,nl,rfl,by simp[Tr.ba],hnl⟩
   |cons q b'=>
    have la':∀ H,Mc H 0 (.pv va)=some (a'.length+1):=la
    have z1':decide ((((a'.length+1):Nat):Int) > 0)=true:=z1
    have lb':∀ H,Mc H 0 (.pv vb)=some (b'.length+1):=lb
    have z2':decide ((((b'.length+1):Nat):Int) > 0)=true:=db (by omega)
    have hva:va= .lit 2 (Td (p::a')):=ha.lit (i:=0) (by simp)
    have hvb:vb= .lit 2 (Td (q::b')):=hb.lit (i:=0) (by simp)
    have sa:=Bh.zR ha
    have sb:=Bh.zR hb
    have i1:∀ H,ma H 2 (.pv va) 0=some (.pv (.rp [i64 p.1,i64 p.2] 0)):=fun H=>by
     rw[hva];exact Oo H (i:=0) (l:=p::a') (by simp)
    have i2:∀ H,ma H 2 (.pv vb) 0=some (.pv (.rp [i64 q.1,i64 q.2] 0)):=fun H=>by
     rw[hvb];exact Oo H (i:=0) (l:=q::b') (by simp)
    have hap:=Kk (A:=[.tok 2 out.length nl]) (id:=0) (n:=out.length) (h:= .uq) (ag:=true) (nl:=nl) (sz:=2) (bytes:=16) (es:=Td out) rfl (by simp) (by unfold Cb;simp only[List.length_cons] at hlen;omega) (pr ((if q.1 > p.1 then q.1 else p.1),(if q.2 < p.2 then q.2 else p.2)))
    rw[List.set_cons_zero] at hap
    have hm:∀ n,ve (n+1) (p::a') (q::b')=(if (if q.1 > p.1 then q.1 else p.1)≤(if q.2 < p.2 then q.2 else p.2) then [((if q.1 > p.1 then q.1 else p.1),(if q.2 < p.2 then q.2 else p.2))] else [])++(if p.2 < q.2 then ve n a' (q::b') else ve n (p::a') b'):=fun n=>rfl
    have hmn:(p::a').length+(q::b').length=(a'.length+b'.length+1)+1:=by simp;omega
    have l0:∀ H (x y:PV),na H false 1 (.pv (.rp [x,y] 0))=some (.pv x):=fun H x y=>rfl
    have l1:∀ H (x y:PV),na H false 1 (.pv (.rp [x,y] 1))=some (.pv y):=fun H x y=>rfl
    have p0:∀ H (x y:PV),place H 0 (.pv (.rp [x,y] 0))=some (.pv (.rp [x,y] 0)):=fun H x y=>rfl
    have p1:∀ H (x y:PV),place H 1 (.pv (.rp [x,y] 0))=some (.pv (.rp [x,y] 1)):=fun H x y=>rfl
    rw[hmn] at hlen
    rw[hmn,hm] at hs
    generalize hlo:(if q.1 > p.1 then q.1 else p.1)=lo at *
    generalize hhi:(if q.2 < p.2 then q.2 else p.2)=hi at *
    clear hva hvb
    have hprs:Td (out++[(lo,hi)])=Td out++[pr (lo,hi)]:=by simp[Td]
    generalize hQ:LQ _ _ _=Q
    by_cases c1:lo≤hi
    ·have d1:=db c1
     rw[if_pos c1] at hs
     by_cases c2:p.2 < q.2
     ·have d2:=db c2
      rw[if_pos c2] at hs
      simp -implicitDefEqProofs only[SP,WP,oa,sevalprocAttr,Fe,la',lb',z1',z2',i1,i2,l0,l1,p0,p1,Wn,zd,hlo,hhi,hap,d1,d2,sa,sb,xa,Ra,AV.cut,pa,Ta,Vs]
      subst hQ
      exact⟨a'.length+b'.length+1,by rw[hmn];omega,_,vb,a',q::b',false,out++[(lo,hi)],by simp;omega,.inr rfl,hb,by rw[hprs];simp[Vs],by simp;omega,by simp,by rw[hs,List.append_assoc]⟩
     ·have d2:=mb c2
      rw[if_neg c2] at hs
      simp -implicitDefEqProofs only[SP,WP,oa,sevalprocAttr,Fe,la',lb',z1',z2',i1,i2,l0,l1,p0,p1,Wn,zd,hlo,hhi,hap,d1,d2,sa,sb,xa,Ra,AV.cut,pa,Ta,Vs]
      subst hQ
      exact⟨a'.length+b'.length+1,by rw[hmn];omega,va,_,p::a',b',false,out++[(lo,hi)],by simp;omega,ha,.inr rfl,by rw[hprs];simp[Vs],by simp;omega,by simp,by rw[hs,List.append_assoc]⟩
    ·have d1:=mb c1
     rw[if_neg c1,List.nil_append] at hs
     by_cases c2:p.2 < q.2
     ·have d2:=db c2
      rw[if_pos c2] at hs
      simp -implicitDefEqProofs only[SP,WP,oa,sevalprocAttr,Fe,la',lb',z1',z2',i1,i2,l0,l1,p0,p1,Wn,zd,hlo,hhi,d1,d2,sa,sb,xa,Ra,AV.cut,pa,Ta,Vs]
      subst hQ
      exact⟨a'.length+b'.length+1,by rw[hmn];omega,_,vb,a',q::b',nl,out,by simp;omega,.inr rfl,hb,rfl,by omega,hnl,hs⟩
     ·have d2:=mb c2
      rw[if_neg c2] at hs
      simp -implicitDefEqProofs only[SP,WP,oa,sevalprocAttr,Fe,la',lb',z1',z2',i1,i2,l0,l1,p0,p1,Wn,zd,hlo,hhi,d1,d2,sa,sb,xa,Ra,AV.cut,pa,Ta,Vs]
      subst hQ
      exact⟨a'.length+b'.length+1,by rw[hmn];omega,va,_,p::a',b',nl,out,by simp;omega,ha,.inr rfl,rfl,by omega,hnl,hs⟩
 obtain⟨r,h1,E,H,nl,rfl,hE,hnl⟩:=qd hloop
 simp only[Vs,Td,List.map_nil] at h1
 generalize ve (a.length+b.length) a b=u at *
 have hz:(0 < 2)=True:=by simp
 cases nl with
 |true=>
  refine⟨.qa,?_,.inl ⟨rfl,by rw[hnl rfl];rfl⟩⟩
  simp -implicitDefEqProofs only[Gj,SX,sevalprocAttr,yn,Tc,gf,hz,xa,Ra,AV.cut,pa,Ta,h1,hE]
 |false=>
  refine⟨.lit 2 (Td u),?_,.inr rfl⟩
  simp -implicitDefEqProofs only[Gj,SX,sevalprocAttr,yn,Tc,gf,hz,xa,Ra,AV.cut,pa,Ta,h1,hE]
end Go.AM.B1
namespace Go.AM.B1
open Go.AM Go.AM.So
theorem mz {top:Int}:∀ {l:List (Int×Int)} {last:Int},Ka top last l=true→∀ p∈l,last < p.1 - 1
 |q::l,last,h,p,hp=>by
  obtain⟨h1,h2,h3,h4,h5⟩:=Zc h
  rcases List.mem_cons.1 hp with rfl | hp
  ·omega
  ·have:=mz h5 p hp;omega
theorem Ko {top last x:Int} {l:List (Int×Int)} (h:Ka top last l=true) (hx:Dh x l):last+1 < x:=by
 obtain⟨p,hp,h1,h2⟩:=hx
 have:=mz h p hp;omega
theorem Dp {top:Int}:∀ (n:Nat) (a b:List (Int×Int)) (la lb:Int),Ka top la a=true→Ka top lb b=true→a.length+b.length≤n→
 (∀ x,Dh x (ve n a b)↔Dh x a∧Dh x b)∧∀ p∈ve n a b,p.1≤p.2
 |0,a,b,la,lb,_,_,hn=>by
  have:a=[]:=List.eq_nil_of_length_eq_zero (by omega)
  subst this
  exact⟨fun x=>by simp[ve,lk],by simp[ve]⟩
 |n+1,[],b,la,lb,_,_,hn=>⟨fun x=>by simp[ve,lk],by simp[ve]⟩
 |n+1,p::a,[],la,lb,_,_,hn=>⟨fun x=>by simp[ve,lk],by simp[ve]⟩
 |n+1,p::a,q::b,la,lb,ha,hb,hn=>by
  obtain⟨a1,a2,a3,a4,a5⟩:=Zc ha
  obtain⟨b1,b2,b3,b4,b5⟩:=Zc hb
  rw[ve]
  have hlo:p.1≤(if q.1 > p.1 then q.1 else p.1)∧q.1≤(if q.1 > p.1 then q.1 else p.1)∧((if q.1 > p.1 then q.1 else p.1)=p.1∨(if q.1 > p.1 then q.1 else p.1)=q.1):=by split <;> omega
  have hhi:(if q.2 < p.2 then q.2 else p.2)≤p.2∧(if q.2 < p.2 then q.2 else p.2)≤q.2∧((if q.2 < p.2 then q.2 else p.2)=p.2∨(if q.2 < p.2 then q.2 else p.2)=q.2):=by split <;> omega
  generalize (if q.1 > p.1 then q.1 else p.1)=lo at *
  generalize (if q.2 < p.2 then q.2 else p.2)=hi at *
  have hpc:∀ x,Dh x (if lo≤hi then [(lo,hi)] else [])↔(p.1≤x∧x≤p.2)∧(q.1≤x∧x≤q.2):=by
   intro x
   by_cases h:lo≤hi
   ·rw[if_pos h,Ql];simp only;omega
   ·rw[if_neg h]
    simp only[lk,false_iff]
    omega
  have hpl:∀ r∈(if lo≤hi then [(lo,hi)] else []),r.1≤r.2:=by
   intro r hr
   by_cases h:lo≤hi
   ·rw[if_pos h] at hr;simp at hr;subst hr;exact h
   ·rw[if_neg h] at hr;simp at hr
  by_cases c:p.2 < q.2
  ·rw[if_pos c]
   have ih:=Dp n a (q::b) p.2 lb a5 hb (by simp at hn ⊢;omega)
   refine⟨fun x=> ?_,fun r hr=> ?_⟩
   ·rw[Jp,hpc,ih.1,Fj,Fj]
    have hfar:Dh x b→q.2+1 < x:=Ko b5
    constructor
    ·rintro (⟨h1,h2⟩ | ⟨h1,h2⟩)
     ·exact⟨.inl h1,.inl h2⟩
     ·exact⟨.inr h1,h2⟩
    ·rintro⟨h1 | h1,h2⟩
     ·rcases h2 with h2 | h2
      ·exact .inl ⟨h1,h2⟩
      ·have:=hfar h2;omega
     ·exact .inr ⟨h1,h2⟩
   ·rcases List.mem_append.1 hr with h | h
    ·exact hpl r h
    ·exact ih.2 r h
  ·rw[if_neg c]
   have ih:=Dp n (p::a) b la q.2 ha b5 (by simp at hn ⊢;omega)
   refine⟨fun x=> ?_,fun r hr=> ?_⟩
   ·rw[Jp,hpc,ih.1,Fj,Fj]
    have hfar:Dh x a→p.2+1 < x:=Ko a5
    constructor
    ·rintro (⟨h1,h2⟩ | ⟨h1,h2⟩)
     ·exact⟨.inl h1,.inl h2⟩
     ·exact⟨h1,.inr h2⟩
    ·rintro⟨h1,h2 | h2⟩
     ·rcases h1 with h1 | h1
      ·exact .inl ⟨h1,h2⟩
      ·have:=hfar h1;omega
     ·exact .inr ⟨h1,h2⟩
   ·rcases List.mem_append.1 hr with h | h
    ·exact hpl r h
    ·exact ih.2 r h
theorem uI {top:Int} {a b:List (Int×Int)} (ha:Ka top (-2) a=true) (hb:Ka top (-2) b=true):ve (a.length+b.length) a b≠[]↔∃ x,Dh x a∧Dh x b:=by
 have h:=Dp (a.length+b.length) a b (-2) (-2) ha hb (Nat.le_refl _)
 constructor
 ·intro hne
  obtain⟨p,r,hpr⟩:=List.exists_cons_of_ne_nil hne
  have hp:p∈ve (a.length+b.length) a b:=by rw[hpr];simp
  exact⟨p.1,(h.1 p.1).1 ⟨p,hp,Int.le_refl _,h.2 p hp⟩⟩
 ·rintro⟨x,hx⟩ he
  have:=(h.1 x).2 hx
  rw[he] at this
  exact lk x this
theorem Dt:∀ (n:Nat) (a b:List (Int×Int)),(ve n a b).length≤n
 |0,a,b=>by simp[ve]
 |n+1,[],b=>by simp[ve]
 |n+1,p::a,[]=>by simp[ve]
 |n+1,p::a,q::b=>by
  rw[ve,List.length_append]
  generalize (if q.1 > p.1 then q.1 else p.1)=lo
  generalize (if q.2 < p.2 then q.2 else p.2)=hi
  have h1:(if lo≤hi then [(lo,hi)] else []).length≤1:=by
   by_cases h:lo≤hi
   ·rw[if_pos h];simp
   ·rw[if_neg h];simp
  by_cases c:p.2 < q.2
  ·rw[if_pos c];have:=Dt n a (q::b);omega
  ·rw[if_neg c];have:=Dt n (p::a) b;omega
theorem Iw (A B:PV) (a b:List (Int×Int)) (hA:Bh 2 A (Td a)) (hB:Bh 2 B (Td b)) (hva:Ka Gu (-2) a=true) (hvb:Ka Gu (-2) b=true) (hw:(a.length+b.length) * 16≤140737488355328):
 Tj [A,B]=some (.lit 2 (Td (ve (a.length+b.length) a b))):=by
 have h1:=br A a hA (by omega) hva
 have h2:=br B b hB (by omega) hvb
 obtain⟨u,h3,h4⟩:=VF (.lit 2 (Td a)) (.lit 2 (Td b)) a b (.inr rfl) (.inr rfl) hw
 have h5:=yj u _ h4 (by have:=Dt (a.length+b.length) a b;omega)
 rw[← uE] at h5
 have h6:Zj [u]=some (.lit 2 (Td (ve (a.length+b.length) a b))):=by
  simp -implicitDefEqProofs only[Zj,SP,SA,SQ,sevalprocAttr,Qm,Be,Rb,h5]
 simp -implicitDefEqProofs only[Tj,SP,SA,SQ,sevalprocAttr,Om,Be,Rb,h1,h2,h3,h6]
theorem Ho (v:PV) (l:List (Int×Int)) (hv:Bh 2 v (Td l)) (hw:l.length * 16≤140737488355328) (hval:Ka 255 (-2) l=true):ef [v]=some (.lit 2 (Td l)):=by
 have h1:=yj v l hv hw
 have h2:=Gp (.lit 2 (Td l)) l (.inr rfl) (by unfold maxLen;omega) 255 (by decide)
 rw[hval] at h2
 simp -implicitDefEqProofs only[ef,SP,SA,SQ,sevalprocAttr,El,Be,Rb,h1,h2]
theorem nA (A B:PV) (a b:List (Int×Int)) (hA:Bh 2 A (Td a)) (hB:Bh 2 B (Td b)) (hva:Ka 255 (-2) a=true) (hvb:Ka 255 (-2) b=true) (hw:(a.length+b.length) * 16≤140737488355328):
 qm [A,B]=some (.lit 2 (Td (ve (a.length+b.length) a b))):=by
 have h1:=Ho A a hA (by omega) hva
 have h2:=Ho B b hB (by omega) hvb
 obtain⟨u,h3,h4⟩:=VF (.lit 2 (Td a)) (.lit 2 (Td b)) a b (.inr rfl) (.inr rfl) hw
 have h5:=yj u _ h4 (by have:=Dt (a.length+b.length) a b;omega)
 rw[← bG] at h5
 have h6:xm [u]=some (.lit 2 (Td (ve (a.length+b.length) a b))):=by
  simp -implicitDefEqProofs only[xm,SP,SA,SQ,sevalprocAttr,Iq,Be,Rb,h5]
 simp -implicitDefEqProofs only[qm,SP,SA,SQ,sevalprocAttr,bq,Be,Rb,h1,h2,h3,h6]
theorem qx (n:Int) (l:List (Int×Int)):Fc n l=n+Fc 0 l:=by
 induction l generalizing n with
 |nil=>simp[Fc]
 |cons p l ih=>rw[Fc,Fc,ih,ih (0+(p.2 - p.1+1))];omega
theorem Qn {top:Int}:∀ {l:List (Int×Int)} {last:Int},Ka top last l=true→0≤Fc 0 l∧(l≠[]→1≤Fc 0 l∧Fc 0 l≤top - last - 1∧Fc 0 l≤top+1)∧Fc 0 l≤max 0 (top+1)
 | [],last,_=>⟨by simp[Fc],fun h=>absurd rfl h,by simp[Fc];omega⟩
 |p::l,last,h=>by
  obtain⟨h1,h2,h3,h4,h5⟩:=Zc h
  have ih:=Qn h5
  rw[Fc,qx]
  have key:l≠[]∨l=[]:=by cases l <;> simp
  rcases key with hl | hl
  ·have:=ih.2.1 hl
   exact⟨by omega,fun _=>⟨by omega,by omega,by omega⟩,by omega⟩
  ·subst hl
   simp only[Fc]
   exact⟨by omega,fun _=>⟨by omega,by omega,by omega⟩,by omega⟩
theorem Yq {top:Int}:∀ {l:List (Int×Int)} {last:Int},Ka top last l=true→(l.length:Int)≤max 0 (top - last)
 | [],last,_=>by simp;omega
 |p::l,last,h=>by
  obtain⟨h1,h2,h3,h4,h5⟩:=Zc h
  have:=Yq h5
  simp only[List.length_cons]
  omega
theorem Nr (v:PV) (l:List (Int×Int)) (hv:Bh 2 v (Td l)) (hw:l.length * 16≤140737488355328) (hval:Ka 255 (-2) l=true):sk [v]=some (i64 (Fc 0 l)):=by
 have h1:=Ho v l hv hw hval
 have h2:=dO (.lit 2 (Td l)) l (.inr rfl) (by unfold maxLen;omega) (top:=255) (by decide) hval
 simp -implicitDefEqProofs only[sk,SP,SA,SQ,sevalprocAttr,Sp,Be,Rb,h1,h2]
end Go.AM.B1
namespace Go.AM.B1
open Go.AM
theorem Nl (A:List aa) (o:aa):(A++[o])[A.length]? =some o:=by simp
theorem Kl (A:List aa) (o o':aa):(A++[o]).set A.length o'=A++[o']:=by
 apply List.ext_getElem?
 intro i
 by_cases h:i=A.length
 ·subst h;simp
 ·rw[List.getElem?_set_ne (Ne.symm h)]
  rcases Nat.lt_or_ge i A.length with h1 | h1
  ·rw[List.getElem?_append_left h1,List.getElem?_append_left h1]
  ·rw[List.getElem?_append_right h1,List.getElem?_append_right h1]
   have:i - A.length≠0:=by omega
   obtain⟨k,hk⟩:∃ k,i - A.length=k+1:=⟨i - A.length - 1,by omega⟩
   rw[hk];simp
abbrev u32 (n:Int):PV:= .int .u32 n
abbrev Zt (S:PV) (x d bits len i left:Int) (ends:Bool):Tr:=
 ((((((Tr.lf.set 18 (.pv (i64 i))).set 17 (.pv (i64 len))).set 16 (.pv S)).set 9 (.pv (.bool ends))).set 8 (.pv (u32 left))).set 4 (.pv (.rp [i64 d,u32 bits] 0))).set 2 (.pv (i64 x))
def gv (bits:Int) (i:Nat):Bool:=IntKind.u32.wrap (((BitVec.ofInt IntKind.u32.bits (bits.fdiv (2 ^ min i IntKind.u32.bits)) &&& BitVec.ofInt IntKind.u32.bits 1).toNat:Nat):Int)==1
theorem yt (bits:Int) (i:Nat):(IntKind.u32.wrap (((BitVec.ofInt IntKind.u32.bits (bits.fdiv (2 ^ min i IntKind.u32.bits)) &&& BitVec.ofInt IntKind.u32.bits 1).toNat:Nat):Int)==1)=gv bits i:=rfl
def cT (left:Int) (i:Nat):Int:=IntKind.u32.wrap (((BitVec.ofInt IntKind.u32.bits left ||| BitVec.ofInt IntKind.u32.bits (IntKind.u32.wrap (1 * 2 ^ min i IntKind.u32.bits))).toNat:Nat):Int)
theorem KG (left:Int) (i:Nat):IntKind.u32.wrap (((BitVec.ofInt IntKind.u32.bits left ||| BitVec.ofInt IntKind.u32.bits (IntKind.u32.wrap (1 * 2 ^ min i IntKind.u32.bits))).toNat:Nat):Int)=cT left i:=rfl
section
variable (call:Fa) (A:List aa) (ss:List PV) (x bits left:Int) (d:Nat) (ends:Bool) (i len:Nat) (hi:i < len) (hl:len=ss.length) (hw:len≤maxLen) (ps:List PV) (first:Int) (hs:ss[i]? =some (.agg [.lit 1 ps,i64 first]))
include hi hl hw hs
theorem DQ (hb:gv bits i=false):
 fa (ga call Za) (fun s=>some (tidy [2,4,8,9,16,17,18] s)) ⟨Zt (.lit 2 ss) x d bits len i left ends,A⟩=
  some (.norm,⟨Zt (.lit 2 ss) x d bits len (i+1:Nat) left ends,A++[.box [.pv (.lit 1 ps),.pv (i64 first)]]⟩):=by
 have e1:decide ((i:Int) < (len:Int))=true:=db (by omega)
 have hq:Ca (i:Int) ss.length:=by unfold Ca;omega
 have t1:((i:Int)).toNat=i:=by simp
 have t2:=Ab hi hw
 have hn:((i:Int) < 0)=False:=by simp
 simp -implicitDefEqProofs only[SP,SA,SQ,sevalprocAttr,fa,Za,e1,eq_true hq,t1,t2,hs,hn,yt,hb,ma,Nl,Kl,tidy,Yb,Zt]
theorem xQ (hb:gv bits i=true) (qs:List PV) (hp:ps[d]? =some (.lit 2 qs)) (hdl:d < ps.length) (hd:d < 4611686018427387904) (hh:wi [.lit 2 qs,i64 x]=some (.bool false)):
 fa (ga call Za) (fun s=>some (tidy [2,4,8,9,16,17,18] s)) ⟨Zt (.lit 2 ss) x d bits len i left ends,A⟩=
  some (.norm,⟨Zt (.lit 2 ss) x d bits len (i+1:Nat) left ends,A++[.box [.pv (.lit 1 ps),.pv (i64 first)]]⟩):=by
 have e1:decide ((i:Int) < (len:Int))=true:=db (by omega)
 have hq:Ca (i:Int) ss.length:=by unfold Ca;omega
 have t1:((i:Int)).toNat=i:=by simp
 have t2:=Ab hi hw
 have hn:((i:Int) < 0)=False:=by simp
 have hq2:Ca (d:Int) ps.length:=by unfold Ca;omega
 have t3:((d:Int)).toNat=d:=by simp
 simp -implicitDefEqProofs only[SP,SA,SQ,sevalprocAttr,fa,Za,e1,eq_true hq,eq_true hq2,t1,t2,t3,hs,hn,yt,hb,hp,hh,Be,Rb,ma,Nl,Kl,tidy,Yb,Zt]
theorem WR (hb:gv bits i=true) (qs:List PV) (hp:ps[d]? =some (.lit 2 qs)) (hdl:d < ps.length) (hd:d < 4611686018427387904) (hh:wi [.lit 2 qs,i64 x]=some (.bool true)):
 fa (ga call Za) (fun s=>some (tidy [2,4,8,9,16,17,18] s)) ⟨Zt (.lit 2 ss) x d bits len i left ends,A⟩=
  some (.norm,⟨Zt (.lit 2 ss) x d bits len (i+1:Nat) (cT left i) (ends||(ps.length==d+1)),A++[.box [.pv (.lit 1 ps),.pv (i64 first)]]⟩):=by
 have e1:decide ((i:Int) < (len:Int))=true:=db (by omega)
 have hq:Ca (i:Int) ss.length:=by unfold Ca;omega
 have t1:((i:Int)).toNat=i:=by simp
 have t2:=Ab hi hw
 have hn:((i:Int) < 0)=False:=by simp
 have hq2:Ca (d:Int) ps.length:=by unfold Ca;omega
 have t3:((d:Int)).toNat=d:=by simp
 have t4:IntKind.i64.wrap ((d:Int)+1)=((d+1:Nat):Int):=Da (by omega)
 have t5:((ps.length:Int)==((d+1:Nat):Int))=(ps.length==d+1):=by
  rw[Bool.eq_iff_iff];simp;omega
 cases ends with
 |true=>simp -implicitDefEqProofs only[SP,SA,SQ,sevalprocAttr,fa,Za,e1,eq_true hq,eq_true hq2,t1,t2,t3,t4,t5,hs,hn,yt,KG,hb,hp,hh,Be,Rb,ma,Nl,Kl,tidy,Yb,Zt]
 |false=>simp -implicitDefEqProofs only[SP,SA,SQ,sevalprocAttr,fa,Za,e1,eq_true hq,eq_true hq2,t1,t2,t3,t4,t5,hs,hn,yt,KG,hb,hp,hh,Be,Rb,ma,Nl,Kl,tidy,Yb,Zt]
end
structure ec where
 parts:List (List (Int×Int))
 first:Int
def Pd (l:List (Int×Int)):PV:= .lit 2 (Td l)
def Cd (s:ec):PV:= .agg [.lit 1 (s.parts.map Pd),i64 s.first]
def sM (l:List (Int×Int)) (x:Int):Bool:=(qe x 0 (uu l)).2
def yp (s:ec) (d:Nat) (x:Int):Bool:=
 match s.parts[d]? with
 |some l=>sM l x
 |none=>false
def Cf (x bits:Int) (d:Nat):Nat→List ec→Int×Bool→Int×Bool
 |_,[],acc=>acc
 |i,s::r,acc=>Cf x bits d (i+1) r (if gv bits i&&yp s d x then (cT acc.1 i,acc.2||(s.parts.length==d+1)) else acc)
theorem ED (l:List (Int×Int)):Dv (.lit 2 (Td l))=some l:=by
 have:Wa Bv (Td l)=some l:=by
  induction l with
  |nil=>rfl
  |cons p l ih=>simp only[Td,List.map_cons,Wa,Bv,Option.bind_some] at ih ⊢;rw[ih];rfl
 exact this
theorem UM {l:List (Int×Int)} (h:l.length * 16≤140737488355328) (x:Int):wi [Pd l,i64 x]=some (.bool (sM l x)):=by
 simp only[wi,Pd,ED,Option.bind_some,if_pos h];rfl
def GB (ss:List ec):List aa:=ss.map fun s=> .box [.pv (.lit 1 (s.parts.map Pd)),.pv (i64 s.first)]
section
variable (call:Fa) (H:List aa) (id:Nat) (rest:List AV) (S:PV) (ss:List ec) (x bits:Int) (d:Nat)
 (hid:H[id]? =some (.box (.pv S::rest))) (hS:Bh 2 S (ss.map Cd)) (hw:ss.length≤maxLen) (hd:d < 4611686018427387904)
 (ta:∀ i s,ss[i]? =some s→gv bits i=true→d < s.parts.length) (hsz:∀ s∈ss,∀ l∈s.parts,l.length * 16≤140737488355328)
include hid hS hw hd ta hsz
theorem Vm:Gd call jg [.ptr id 0,.pv (.agg [i64 d,u32 bits]),.pv (i64 x)] H=
 some (.pv (.dc [u32 (Cf x bits d 0 ss (0,false)).1,.bool (Cf x bits d 0 ss (0,false)).2]),H++GB ss):=by
 have ls:=hS.len
 simp only[List.length_map] at ls
 have key:=vi (g:=fa (ga call Za) (fun s=>some (tidy [2,4,8,9,16,17,18] s)))
  (fun i t=>∃ left ends,t=⟨Zt S x d bits ss.length i left ends,H++GB (ss.take i)⟩∧Cf x bits d 0 ss (0,false)=Cf x bits d i (ss.drop i) (left,ends))
  (fun ex t=>ex= .exit 0∧t=⟨(Zt S x d bits ss.length ss.length (Cf x bits d 0 ss (0,false)).1 (Cf x bits d 0 ss (0,false)).2).set 19 (.pv (.bool false)),H++GB ss⟩)
  wa ss.length 0 ⟨Zt S x d bits ss.length (0:Nat) 0 false,H⟩ (by unfold wa;unfold maxLen at hw;omega) (by omega) ⟨0,false,by simp[GB],rfl⟩ ?_ ?_
 ·obtain⟨ex,t,h,_,rfl,rfl⟩:=key
  generalize Cf x bits d 0 ss (0,false)=r at *
  simp -implicitDefEqProofs only[SP,SA,SQ,sevalprocAttr,jg,ls,hid,Dn,tidy,Yb,Zt,h]
  simp only[Zt] at h
  have h':Fb (fa (ga call Za) (fun s=>some (tidy [2,4,8,9,16,17,18] s))) wa ⟨((((((Tr.lf.set 18 (.pv (i64 0))).set 17 (.pv (i64 ss.length))).set 16 (.pv S)).set 9 (.pv (.bool false))).set 8 (.pv (u32 0))).set 4 (.pv (.rp [i64 d,u32 bits] 0))).set 2 (.pv (i64 x)),H⟩=_:=h
  simp only[tidy,Yb] at h'
  rw[h']
  simp -implicitDefEqProofs only[SP,SA,SQ,sevalprocAttr,Rb]
 ·rintro i hi t ⟨left,ends,rfl,hb⟩
  have hlit:=hS.lit (i:=i) (by simpa using hi)
  subst hlit
  have hg:(ss.map Cd)[i]? =some (.agg [.lit 1 (ss[i].parts.map Pd),i64 ss[i].first]):=by simp[hi,Cd]
  have hdr:ss.drop i=ss[i]::ss.drop (i+1):=List.drop_eq_getElem_cons hi
  have hJ:H++GB (ss.take (i+1))=H++GB (ss.take i)++[.box [.pv (.lit 1 (ss[i].parts.map Pd)),.pv (i64 ss[i].first)]]:=by
   rw[List.take_succ_eq_append_getElem hi,GB,List.map_append,List.append_assoc];rfl
  rw[hdr,Cf] at hb
  cases hbit:gv bits i with
  |false=>
   rw[hbit] at hb
   refine .inl ⟨_,DQ call _ _ x bits left d ends i ss.length hi (by simp) hw _ _ hg hbit,left,ends,by rw[hJ],hb⟩
  |true=>
   have hdl:=ta i ss[i] (by simp[hi]) hbit
   have hp:(ss[i].parts.map Pd)[d]? =some (.lit 2 (Td ss[i].parts[d])):=by simp[hdl,Pd]
   have hc:=UM (hsz ss[i] (List.getElem_mem hi) ss[i].parts[d] (List.getElem_mem hdl)) x
   have hat:yp ss[i] d x=sM ss[i].parts[d] x:=by simp[yp,hdl]
   rw[hbit,hat,Bool.true_and] at hb
   cases hh:sM ss[i].parts[d] x with
   |false=>
    rw[hh] at hb hc
    refine .inl ⟨_,xQ call _ _ x bits left d ends i ss.length hi (by simp) hw _ _ hg hbit _ hp (by simpa using hdl) hd hc,left,ends,by rw[hJ],hb⟩
   |true=>
    rw[hh] at hb hc
    refine .inl ⟨_,WR call _ _ x bits left d ends i ss.length hi (by simp) hw _ _ hg hbit _ hp (by simpa using hdl) hd hc,_,_,by rw[hJ],?_⟩
    rw[hb]
    simp
 ·rintro t ⟨left,ends,rfl,hb⟩
  rw[List.drop_length] at hb
  simp only[Cf] at hb
  refine⟨.exit 0,_,?_,rfl,rfl,rfl⟩
  rw[hb,List.take_length]
  have e1:decide ((ss.length:Int) < (ss.length:Int))=false:=mb (by omega)
  simp -implicitDefEqProofs only[SP,SA,SQ,sevalprocAttr,fa,Za,e1,Zt]
end
end Go.AM.B1
namespace Go.AM.B1
open Go.AM
abbrev Al:=Nat×Int
def Wf (a:Al):PV:= .agg [i64 a.1,u32 a.2]
def Cy (l:List Al) (k:Nat):List (PV×PV):=(l.zipIdx k).map fun p=>(Wf p.1,i64 p.2)
theorem Ow (a:Al) (l:List Al) (k:Nat):Cy (a::l) k=(Wf a,i64 k)::Cy l (k+1):=rfl
theorem UB (a:Al):∀ (l:List Al) (k:Nat),Cy (l++[a]) k=Cy l k++[(Wf a,i64 (k+l.length:Nat))]
 | [],k=>by simp[Cy]
 |b::l,k=>by rw[List.cons_append,Ow,UB a l (k+1),Ow];simp;omega
theorem Ty (a b:Al):Zi (.row [1,1]) (Wf a) (Wf b)=some (decide (a=b)):=by
 obtain⟨a1,a2⟩:=a;obtain⟨b1,b2⟩:=b
 simp only[Wf,Zi,oj,Qs,if_true,Option.bind_some,Option.map_some,Bool.and_true,Prod.mk.injEq,Bool.decide_and]
 congr 1
 rw[Bool.eq_iff_iff]
 simp
 intro _
 omega
def Bo (a:Al):List Al→Nat→Option Nat
 | [],_=>none
 |b::l,k=>if a=b then some k else Bo a l (k+1)
theorem oD (a:Al):∀ (l:List Al) (k j:Nat),Dj (.row [1,1]) (Wf a) (Cy l k) j=some ((Bo a l k).map fun i=>(j+(i - k),i64 i)):=by
 intro l
 induction l with
 |nil=>intro k j;rfl
 |cons b l ih=>
  intro k j
  rw[Ow,Dj,Ty]
  simp only[Option.bind_some,Bo]
  by_cases h:a=b
  ·simp[h]
  ·rw[if_neg h,ih]
   simp only[h,decide_false,Bool.false_eq_true,if_false,Option.some.injEq]
   cases hi:Bo a l (k+1) with
   |none=>rfl
   |some i=>
    have:k+1≤i:=by
     clear ih
     induction l generalizing k with
     |nil=>simp[Bo] at hi
     |cons c l ihl=>
      simp only[Bo] at hi
      split at hi
      ·injection hi with hi;omega
      ·have:=ihl (k+1) hi;omega
    simp only[Option.map_some,Option.some.injEq,Prod.mk.injEq,and_true]
    omega
abbrev wh (R0 R1:aa) (S:PV) (nl:Bool) (sets:List Al) (rows:aa) (n:Nat) (T:List aa):List aa:=
 R0::R1:: .map (Cy sets 0):: .box [.pv S,.mp 2,.uq 4 nl 2 (sets.map Wf),.own 5 n]:: .tok 2 sets.length nl::rows::T
section
variable (call:Fa) (R0 R1:aa) (S:PV) (nl:Bool) (sets:List Al) (rows:aa) (n:Nat) (T:List aa) (a:Al)
theorem rQ {i:Nat} (h:Bo a sets 0=some i):
 Gd call Pc [.ptr 3 0,.pv (Wf a)] (wh R0 R1 S nl sets rows n T)=some (.pv (.dc [i64 i,.bool true]),wh R0 R1 S nl sets rows n T):=by
 have hf:=oD a sets 0 0
 rw[h] at hf
 simp only[Option.map_some] at hf
 have hk:(Zi (.row [1,1]) (Wf a) (Wf a)).isSome=true:=by rw[Ty];rfl
 simp only[Wf] at hf hk
 simp -implicitDefEqProofs only[SP,SA,SQ,sevalprocAttr,Wf,Pc,hf,eq_true hk]
theorem gN (h:Bo a sets 0=none) (hl:sets.length=64):
 Gd call Pc [.ptr 3 0,.pv (Wf a)] (wh R0 R1 S nl sets rows n T)=some (.pv (.dc [i64 0,.bool false]),wh R0 R1 S nl sets rows n T):=by
 have hf:=oD a sets 0 0
 rw[h] at hf
 simp only[Option.map_none] at hf
 have hk:(Zi (.row [1,1]) (Wf a) (Wf a)).isSome=true:=by rw[Ty];rfl
 have e1:(((sets.map Wf).length:Int)==64)=true:=by simp[hl]
 simp only[Wf] at hf hk
 simp -implicitDefEqProofs only[SP,SA,SQ,sevalprocAttr,Pc,Wf,hf,eq_true hk,e1]
theorem mK (h:Bo a sets 0=none) (hl:sets.length < 64):
 Gd call Pc [.ptr 3 0,.pv (Wf a)] (wh R0 R1 S nl sets rows n T)=some (.pv (.dc [i64 sets.length,.bool true]),wh R0 R1 S false (sets++[a]) rows n T):=by
 have hf:=oD a sets 0 0
 rw[h] at hf
 simp only[Option.map_none] at hf
 have hk:(Zi (.row [1,1]) (Wf a) (Wf a)).isSome=true:=by rw[Ty];rfl
 have e1:((sets.length:Int)==64)=false:=Nk (by omega)
 have hp:=UB a sets 0
 rw[Nat.zero_add] at hp
 have q1:Cb (sets.length+1) 16:=by unfold Cb;omega
 have hlen:(sets.map Wf).length=sets.length:=by simp
 have hlen2:(sets++[a]).length=sets.length+1:=by simp
 have hmap:(sets++[a]).map Wf=sets.map Wf++[Wf a]:=by simp
 unfold wh
 rw[hp,hlen2,hmap]
 simp only[Wf] at hf hk ⊢
 simp -implicitDefEqProofs only[SP,SA,SQ,sevalprocAttr,Pc,hf,eq_true hk,e1,hlen,eq_true q1,fj,AV.GH,AV.Hr]
end
end Go.AM.B1
namespace Go.AM.B1
open Go.AM
theorem Wj (n:Nat) (cs:List AV):pa n (.box cs)=(Wa (AV.cut n deep) cs).map .box:=rfl
theorem Nj (n:Nat) (es:List (PV×PV)):pa n (.map es)=some (.map es):=rfl
theorem Pp (n sz:Nat) (ag:Bool) (cs:List AV) (fl:Nat) (nl:Bool):pa n (.seq sz ag cs fl nl)=if cs.all (AV.Wc n deep)=true then some (.seq sz ag cs fl nl) else none:=rfl
theorem xk (n sz m:Nat) (nl:Bool):pa n (.tok sz m nl)=some (.tok sz m nl):=rfl
def Ug (ss:List ec) (a:Al) (x:Int) (sets:List Al):Option (List Al×Int):=
 if (Cf x a.2 a.1 0 ss (0,false)).1=0 then some (sets,-2)
 else if (Cf x a.2 a.1 0 ss (0,false)).2=true then some (sets,-1)
 else match Bo (a.1+1,(Cf x a.2 a.1 0 ss (0,false)).1) sets 0 with
  |some k=>some (sets,(k:Int))
  |none=>if sets.length < 64 then some (sets++[(a.1+1,(Cf x a.2 a.1 0 ss (0,false)).1)],(sets.length:Int)) else none
inductive xq (k:Nat) (v:AV) (o:aa):Option (Ex×St)→Prop
 |mk (s:St):s.env.get k=v→s.H[0]? =some o→xq k v o (some (.ret,s))
theorem JA {k:Nat} {v:AV} {o:aa} {s:St}:xq k v o (some (.ret,s))=(s.env.get k=v∧s.H[0]? =some o):=
 propext ⟨fun h=>by cases h with | mk _ h h'=>exact⟨h,h'⟩,fun h=> .mk s h.1 h.2⟩
theorem En {k:Nat} {v:AV} {o:aa} {r:Option (Ex×St)} (h:xq k v o r):∃ t,r=some (.ret,t)∧t.env.get k=v∧t.H[0]? =some o:=by
 cases h with | mk s h h'=>exact⟨s,rfl,h,h'⟩
def Aa (l:List Int):List AV:=l.map fun n=> .pv (i64 n)
theorem Eh (l:List Int) (x:Nat) (v:Int):(Aa l).set x (.pv (i64 v))=Aa (l.set x v):=by simp[Aa,List.map_set]
theorem Qa (l:List Int):(Aa l).length=l.length:=by simp[Aa]
theorem Km (n d:Nat) (l:List Int):Wa (AV.cut n d) (Aa l)=some (Aa l):=by
 induction l with
 |nil=>rfl
 |cons a l ih=>simp only[Aa,List.map_cons,Wa,Ha,Option.bind_some] at ih ⊢;rw[ih];rfl
abbrev Lj (i x:Int):Tr:=(((Tr.lf.set 30 (.pv (i64 x))).set 4 (.ptr 6 0)).set 3 (.pv (i64 i))).set 0 (.ptr 3 0)
section
variable (R0 R1:aa) (S:PV) (nl:Bool) (sets:List Al) (rows:aa) (n:Nat) (row:List Int) (ss:List ec) (i x:Nat) (a:Al)
 (h0:pa 7 R0=some R0) (h1:pa 7 R1=some R1) (hr:pa 7 rows=some rows) (hrow:row.length=256) (hx:x < 256)
 (hi:i < sets.length) (ha:(sets.map Wf)[i]? =some (.agg [i64 a.1,u32 a.2])) (had:a.1 < 4611686018427387904)
 (hS:Bh 2 S (ss.map Cd)) (hw:ss.length≤maxLen)
 (ta:∀ i s,ss[i]? =some s→gv a.2 i=true→a.1 < s.parts.length) (hsz:∀ s∈ss,∀ l∈s.parts,l.length * 16≤140737488355328)
include h0 h1 hr hrow hx hi ha had hS hw ta hsz
theorem WL (hb:(Cf x a.2 a.1 0 ss (0,false)).1=0):
 Zb (za ua 7) [0,3,4,30] ya 7 ⟨Lj i x,wh R0 R1 S nl sets rows n [.box (Aa row)]⟩=
  some (.norm,⟨Lj i (x+1:Nat),wh R0 R1 S nl sets rows n [.box (Aa (row.set x (-2)))]⟩):=by
 have e1:decide ((x:Int) < 256)=true:=db (by omega)
 have hlen:(sets.map Wf).length=sets.length:=by simp
 have hq:Ca (i:Int) sets.length:=by unfold Ca;omega
 have hq2:Ca (x:Int) 256:=by unfold Ca;omega
 have t1:((i:Int)).toNat=i:=by simp
 have t3:((x:Int)).toNat=x:=by simp
 have t2:=Ab (i:=x) (n:=256) hx (by unfold maxLen;omega)
 have hbeh:=Vm (za ua 6) (wh R0 R1 S nl sets rows n [.box (Aa row)]) 3 _ S ss x a.2 a.1 rfl hS hw had ta hsz
 rw[hb] at hbeh
 have hle:x+1≤(Aa row).length:=by rw[Qa];omega
 have hz:(((0:Nat)+x+1)≤(Aa row).length)=True:=by simp only[eq_iff_iff,iff_true];omega
 simp only[wh,List.cons_append,List.nil_append] at hbeh
 generalize (Cf x a.2 a.1 0 ss (0,false)).2=ends at *
 simp -implicitDefEqProofs only[SP,SA,SQ,sevalprocAttr,Zb,fa,ya,ua,e1,hlen,eq_true hq,eq_true hq2,t1,t2,t3,ha,hbeh,hz,eq_true hle,Eh,ma,xa,Ra,Wj,Nj,xk,Ha,Km,AV.cut,Rb,h0,h1,hr,Lj,wh]
theorem YN (hb:(Cf x a.2 a.1 0 ss (0,false)).1≠0) (hb2:(Cf x a.2 a.1 0 ss (0,false)).2=true):
 Zb (za ua 7) [0,3,4,30] ya 7 ⟨Lj i x,wh R0 R1 S nl sets rows n [.box (Aa row)]⟩=
  some (.norm,⟨Lj i (x+1:Nat),wh R0 R1 S nl sets rows n [.box (Aa (row.set x (-1)))]⟩):=by
 have e1:decide ((x:Int) < 256)=true:=db (by omega)
 have hlen:(sets.map Wf).length=sets.length:=by simp
 have hq:Ca (i:Int) sets.length:=by unfold Ca;omega
 have hq2:Ca (x:Int) 256:=by unfold Ca;omega
 have t1:((i:Int)).toNat=i:=by simp
 have t3:((x:Int)).toNat=x:=by simp
 have t2:=Ab (i:=x) (n:=256) hx (by unfold maxLen;omega)
 have hbeh:=Vm (za ua 6) (wh R0 R1 S nl sets rows n [.box (Aa row)]) 3 _ S ss x a.2 a.1 rfl hS hw had ta hsz
 rw[hb2] at hbeh
 have hle:x+1≤(Aa row).length:=by rw[Qa];omega
 have hz:(((0:Nat)+x+1)≤(Aa row).length)=True:=by simp only[eq_iff_iff,iff_true];omega
 simp only[wh,List.cons_append,List.nil_append] at hbeh
 have e4:=Nk hb
 generalize (Cf x a.2 a.1 0 ss (0,false)).1=left at *
 simp -implicitDefEqProofs only[SP,SA,SQ,sevalprocAttr,Zb,fa,ya,ua,e1,hlen,eq_true hq,eq_true hq2,t1,t2,t3,ha,hbeh,e4,hz,eq_true hle,Eh,ma,xa,Ra,Wj,Nj,xk,Ha,Km,AV.cut,Rb,h0,h1,hr,Lj,wh]
theorem GO (hb:(Cf x a.2 a.1 0 ss (0,false)).1≠0) (hb2:(Cf x a.2 a.1 0 ss (0,false)).2=false) {k:Nat} (hk:Bo (a.1+1,(Cf x a.2 a.1 0 ss (0,false)).1) sets 0=some k):
 Zb (za ua 7) [0,3,4,30] ya 7 ⟨Lj i x,wh R0 R1 S nl sets rows n [.box (Aa row)]⟩=
  some (.norm,⟨Lj i (x+1:Nat),wh R0 R1 S nl sets rows n [.box (Aa (row.set x k))]⟩):=by
 have e1:decide ((x:Int) < 256)=true:=db (by omega)
 have hlen:(sets.map Wf).length=sets.length:=by simp
 have hq:Ca (i:Int) sets.length:=by unfold Ca;omega
 have hq2:Ca (x:Int) 256:=by unfold Ca;omega
 have t1:((i:Int)).toNat=i:=by simp
 have t3:((x:Int)).toNat=x:=by simp
 have t2:=Ab (i:=x) (n:=256) hx (by unfold maxLen;omega)
 have hbeh:=Vm (za ua 6) (wh R0 R1 S nl sets rows n [.box (Aa row)]) 3 _ S ss x a.2 a.1 rfl hS hw had ta hsz
 rw[hb2] at hbeh
 have hle:x+1≤(Aa row).length:=by rw[Qa];omega
 have hz:(((0:Nat)+x+1)≤(Aa row).length)=True:=by simp only[eq_iff_iff,iff_true];omega
 simp only[wh,List.cons_append,List.nil_append] at hbeh
 have e4:=Nk hb
 have t5:IntKind.i64.wrap ((a.1:Int)+1)=((a.1+1:Nat):Int):=Da (by omega)
 have hmet:=rQ (za ua 6) R0 R1 S nl sets rows n (.box (Aa row)::GB ss) (a.1+1,(Cf x a.2 a.1 0 ss (0,false)).1) hk
 simp only[wh,Wf] at hmet
 generalize (Cf x a.2 a.1 0 ss (0,false)).1=left at *
 simp -implicitDefEqProofs only[SP,SA,SQ,sevalprocAttr,Zb,fa,ya,ua,e1,hlen,eq_true hq,eq_true hq2,t1,t2,t3,ha,hbeh,hmet,t5,e4,hz,eq_true hle,Eh,ma,xa,Ra,Wj,Nj,xk,Ha,Km,AV.cut,Rb,h0,h1,hr,Lj,wh]
theorem cO (hb:(Cf x a.2 a.1 0 ss (0,false)).1≠0) (hb2:(Cf x a.2 a.1 0 ss (0,false)).2=false) (hk:Bo (a.1+1,(Cf x a.2 a.1 0 ss (0,false)).1) sets 0=none) (hl:sets.length < 64):
 Zb (za ua 7) [0,3,4,30] ya 7 ⟨Lj i x,wh R0 R1 S nl sets rows n [.box (Aa row)]⟩=
  some (.norm,⟨Lj i (x+1:Nat),wh R0 R1 S false (sets++[(a.1+1,(Cf x a.2 a.1 0 ss (0,false)).1)]) rows n [.box (Aa (row.set x (sets.length:Int)))]⟩):=by
 have e1:decide ((x:Int) < 256)=true:=db (by omega)
 have hlen:(sets.map Wf).length=sets.length:=by simp
 have hq:Ca (i:Int) sets.length:=by unfold Ca;omega
 have hq2:Ca (x:Int) 256:=by unfold Ca;omega
 have t1:((i:Int)).toNat=i:=by simp
 have t3:((x:Int)).toNat=x:=by simp
 have t2:=Ab (i:=x) (n:=256) hx (by unfold maxLen;omega)
 have hbeh:=Vm (za ua 6) (wh R0 R1 S nl sets rows n [.box (Aa row)]) 3 _ S ss x a.2 a.1 rfl hS hw had ta hsz
 rw[hb2] at hbeh
 have hle:x+1≤(Aa row).length:=by rw[Qa];omega
 have hz:(((0:Nat)+x+1)≤(Aa row).length)=True:=by simp only[eq_iff_iff,iff_true];omega
 simp only[wh,List.cons_append,List.nil_append] at hbeh
 have e4:=Nk hb
 have t5:IntKind.i64.wrap ((a.1:Int)+1)=((a.1+1:Nat):Int):=Da (by omega)
 have hmet:=mK (za ua 6) R0 R1 S nl sets rows n (.box (Aa row)::GB ss) (a.1+1,(Cf x a.2 a.1 0 ss (0,false)).1) hk hl
 simp only[wh,Wf] at hmet ⊢
 generalize (Cf x a.2 a.1 0 ss (0,false)).1=left at *
 simp -implicitDefEqProofs only[SP,SA,SQ,sevalprocAttr,Zb,fa,ya,ua,e1,hlen,eq_true hq,eq_true hq2,t1,t2,t3,ha,hbeh,hmet,t5,e4,hz,eq_true hle,Eh,ma,xa,Ra,Wj,Nj,xk,Ha,Km,AV.cut,Rb,h0,h1,hr,Lj,wh]
end
section
variable (R0 R1:aa) (S:PV) (nl:Bool) (sets:List Al) (rows:aa) (n:Nat) (row:List Int) (ss:List ec) (i x:Nat) (a:Al)
 (hrow:row.length=256) (hx:x < 256)
 (hi:i < sets.length) (ha:(sets.map Wf)[i]? =some (.agg [i64 a.1,u32 a.2])) (had:a.1 < 4611686018427387904)
 (hS:Bh 2 S (ss.map Cd)) (hw:ss.length≤maxLen)
 (ta:∀ i s,ss[i]? =some s→gv a.2 i=true→a.1 < s.parts.length) (hsz:∀ s∈ss,∀ l∈s.parts,l.length * 16≤140737488355328)
include hrow hx hi ha had hS hw ta hsz
theorem cL (hb:(Cf x a.2 a.1 0 ss (0,false)).1≠0) (hb2:(Cf x a.2 a.1 0 ss (0,false)).2=false) (hk:Bo (a.1+1,(Cf x a.2 a.1 0 ss (0,false)).1) sets 0=none) (hl:sets.length=64):
 xq 2 (.pv (.bool false)) R0 (Zb (za ua 7) [0,3,4,30] ya 7 ⟨Lj i x,wh R0 R1 S nl sets rows n [.box (Aa row)]⟩):=by
 have e1:decide ((x:Int) < 256)=true:=db (by omega)
 have hlen:(sets.map Wf).length=sets.length:=by simp
 have hq:Ca (i:Int) sets.length:=by unfold Ca;omega
 have hq2:Ca (x:Int) 256:=by unfold Ca;omega
 have t1:((i:Int)).toNat=i:=by simp
 have t3:((x:Int)).toNat=x:=by simp
 have t2:=Ab (i:=x) (n:=256) hx (by unfold maxLen;omega)
 have hbeh:=Vm (za ua 6) (wh R0 R1 S nl sets rows n [.box (Aa row)]) 3 _ S ss x a.2 a.1 rfl hS hw had ta hsz
 rw[hb2] at hbeh
 have hle:x+1≤(Aa row).length:=by rw[Qa];omega
 have hz:(((0:Nat)+x+1)≤(Aa row).length)=True:=by simp only[eq_iff_iff,iff_true];omega
 simp only[wh,List.cons_append,List.nil_append] at hbeh
 have e4:=Nk hb
 have t5:IntKind.i64.wrap ((a.1:Int)+1)=((a.1+1:Nat):Int):=Da (by omega)
 have hmet:=gN (za ua 6) R0 R1 S nl sets rows n (.box (Aa row)::GB ss) (a.1+1,(Cf x a.2 a.1 0 ss (0,false)).1) hk hl
 simp only[wh,Wf] at hmet
 generalize (Cf x a.2 a.1 0 ss (0,false)).1=left at *
 simp -implicitDefEqProofs only[SP,SA,SQ,sevalprocAttr,Zb,fa,ya,ua,e1,hlen,eq_true hq,eq_true hq2,t1,t2,t3,ha,hbeh,hmet,t5,e4,JA,hz,eq_true hle,Eh,ma,Lj,wh]
end
end Go.AM.B1
namespace Go.AM.B1
open Go.AM
def tn (ss:List ec) (a:Al):List Nat→List Al×List Int→Option (List Al×List Int)
 | [],r=>some r
 |x::xs,r=>match Ug ss a x r.1 with
  |some p=>tn ss a xs (p.1,r.2.set x p.2)
  |none=>none
theorem zt {ss:List ec} {a:Al} {x:Nat} {xs:List Nat} {r:List Al×List Int} (h:Ug ss a x r.1=none):tn ss a (x::xs) r=none:=by
 rw[tn,h]
theorem Mt {ss:List ec} {a:Al} {x:Nat} {xs:List Nat} {r:List Al×List Int} {p:List Al×Int} (h:Ug ss a x r.1=some p):tn ss a (x::xs) r=tn ss a xs (p.1,r.2.set x p.2):=by
 rw[tn,h]
theorem Wp {n x:Nat} (h:x < n):(List.range n).drop x=x::(List.range n).drop (x+1):=by
 rw[List.drop_eq_getElem_cons (by simpa using h)];simp
theorem Kx {ss:List ec} {a:Al} {x:Int} {sets:List Al} {r:List Al×Int} (h:Ug ss a x sets=some r) (hl:sets.length≤64):r.1.length≤64∧∃ t,r.1=sets++t:=by
 unfold Ug at h
 split at h
 ·injection h with h;subst h;exact⟨hl,[],by simp⟩
 ·split at h
  ·injection h with h;subst h;exact⟨hl,[],by simp⟩
  ·split at h
   ·injection h with h;subst h;exact⟨hl,[],by simp⟩
   ·split at h
    ·injection h with h;subst h;exact⟨by simp;omega,_,rfl⟩
    ·cases h
section
variable (R0 R1:aa) (S:PV) (rows:aa) (n:Nat) (ss:List ec)
 (h0:pa 7 R0=some R0) (h1:pa 7 R1=some R1) (hr:pa 7 rows=some rows)
 (hS:Bh 2 S (ss.map Cd)) (hw:ss.length≤maxLen)
 (hsz:∀ s∈ss,∀ l∈s.parts,l.length * 16≤140737488355328)
include h0 h1 hr hS hw hsz
theorem IH {nl:Bool} {sets:List Al} {row:List Int} {i x:Nat} {a:Al} (hrow:row.length=256) (hx:x < 256) (ha:sets[i]? =some a) (had:a.1 < 4611686018427387904) (hl:sets.length≤64)
 (ta:∀ i s,ss[i]? =some s→gv a.2 i=true→a.1 < s.parts.length):
 (∀ r,Ug ss a x sets=some r→∃ nl',Zb (za ua 7) [0,3,4,30] ya 7 ⟨Lj i x,wh R0 R1 S nl sets rows n [.box (Aa row)]⟩=
  some (.norm,⟨Lj i (x+1:Nat),wh R0 R1 S nl' r.1 rows n [.box (Aa (row.set x r.2))]⟩))∧
 (Ug ss a x sets=none→xq 2 (.pv (.bool false)) R0 (Zb (za ua 7) [0,3,4,30] ya 7 ⟨Lj i x,wh R0 R1 S nl sets rows n [.box (Aa row)]⟩)):=by
 have hi:i < sets.length:=(List.getElem?_eq_some_iff.1 ha).1
 have ha':(sets.map Wf)[i]? =some (.agg [i64 a.1,u32 a.2]):=by rw[List.getElem?_map,ha];rfl
 by_cases hb:(Cf x a.2 a.1 0 ss (0,false)).1=0
 ·have hst:=(show Ug ss a x sets=some (sets,-2) by unfold Ug;rw[if_pos hb])
  rw[hst]
  exact⟨fun r e=>by injection e with e;subst e;exact⟨nl,WL R0 R1 S nl sets rows n row ss i x a h0 h1 hr hrow hx hi ha' had hS hw ta hsz hb⟩,fun e=>by cases e⟩
 by_cases hb2:(Cf x a.2 a.1 0 ss (0,false)).2=true
 ·have hst:=(show Ug ss a x sets=some (sets,-1) by unfold Ug;rw[if_neg hb,if_pos hb2])
  rw[hst]
  exact⟨fun r e=>by injection e with e;subst e;exact⟨nl,YN R0 R1 S nl sets rows n row ss i x a h0 h1 hr hrow hx hi ha' had hS hw ta hsz hb hb2⟩,fun e=>by cases e⟩
 have hb3:(Cf x a.2 a.1 0 ss (0,false)).2=false:=by simpa using hb2
 cases hk:Bo (a.1+1,(Cf x a.2 a.1 0 ss (0,false)).1) sets 0 with
 |some k=>
  have hst:=(show Ug ss a x sets=some (sets,(k:Int)) by unfold Ug;rw[if_neg hb,if_neg hb2,hk])
  rw[hst]
  exact⟨fun r e=>by injection e with e;subst e;exact⟨nl,GO R0 R1 S nl sets rows n row ss i x a h0 h1 hr hrow hx hi ha' had hS hw ta hsz hb hb3 hk⟩,fun e=>by cases e⟩
 |none=>
  by_cases hlt:sets.length < 64
  ·have hst:=(show Ug ss a x sets=some (sets++[(a.1+1,(Cf x a.2 a.1 0 ss (0,false)).1)],(sets.length:Int)) by unfold Ug;rw[if_neg hb,if_neg hb2,hk];simp only[if_pos hlt])
   rw[hst]
   exact⟨fun r e=>by injection e with e;subst e;exact⟨false,cO R0 R1 S nl sets rows n row ss i x a h0 h1 hr hrow hx hi ha' had hS hw ta hsz hb hb3 hk hlt⟩,fun e=>by cases e⟩
  ·have hst:=(show Ug ss a x sets=none by unfold Ug;rw[if_neg hb,if_neg hb2,hk];simp only[if_neg hlt])
   rw[hst]
   exact⟨fun r e=>(by cases e),fun _=>cL R0 R1 S nl sets rows n row ss i x a hrow hx hi ha' had hS hw ta hsz hb hb3 hk (by omega)⟩
theorem sN {nl:Bool} {sets:List Al} {row:List Int} {i:Nat} {a:Al} (hrow:row.length=256) (ha:sets[i]? =some a) (had:a.1 < 4611686018427387904) (hl:sets.length≤64)
 (ta:∀ i s,ss[i]? =some s→gv a.2 i=true→a.1 < s.parts.length):
 (∀ r,tn ss a (List.range 256) (sets,row)=some r→∃ nl',Fb (fa (ga (za ua 7) ya) (xa 7 [0,3,4,30])) wa ⟨Lj i 0,wh R0 R1 S nl sets rows n [.box (Aa row)]⟩=
  some (.exit 2,⟨(Lj i 256).set 31 (.pv (.bool false)),wh R0 R1 S nl' r.1 rows n [.box (Aa r.2)]⟩)∧r.1.length≤64∧r.2.length=256∧∃ t,r.1=sets++t)∧
 (tn ss a (List.range 256) (sets,row)=none→xq 2 (.pv (.bool false)) R0 (Fb (fa (ga (za ua 7) ya) (xa 7 [0,3,4,30])) wa ⟨Lj i 0,wh R0 R1 S nl sets rows n [.box (Aa row)]⟩)):=by
 generalize hxs:List.range 256=xs
 have key:=vi (g:=Zb (za ua 7) [0,3,4,30] ya 7)
  (fun x t=>∃ nl' sets' row',t=⟨Lj i x,wh R0 R1 S nl' sets' rows n [.box (Aa row')]⟩∧tn ss a xs (sets,row)=tn ss a (xs.drop x) (sets',row')∧sets'.length≤64∧row'.length=256∧∃ t,sets'=sets++t)
  (fun ex t=>(∃ r,ex= .exit 2∧tn ss a xs (sets,row)=some r∧∃ nl',t=⟨(Lj i 256).set 31 (.pv (.bool false)),wh R0 R1 S nl' r.1 rows n [.box (Aa r.2)]⟩∧r.1.length≤64∧r.2.length=256∧∃ t,r.1=sets++t)∨
   (ex= .ret∧tn ss a xs (sets,row)=none∧t.env.get 2= .pv (.bool false)∧t.H[0]? =some R0))
  wa 256 0 ⟨Lj i (0:Nat),wh R0 R1 S nl sets rows n [.box (Aa row)]⟩ (by unfold wa;omega) (by omega) ⟨nl,sets,row,rfl,rfl,hl,hrow,[],by simp⟩ ?_ ?_
 ·obtain⟨ex,t,h,_,hq⟩:=key
  have h':Fb (fa (ga (za ua 7) ya) (xa 7 [0,3,4,30])) wa ⟨Lj i 0,wh R0 R1 S nl sets rows n [.box (Aa row)]⟩=some (ex,t):=h
  rw[h']
  rcases hq with⟨r,rfl,hr',nl',rfl,q1,q2,q3⟩ | ⟨rfl,hr',hg,hg2⟩
  ·refine⟨fun r2 e=> ?_,fun e=> ?_⟩
   ·rw[hr'] at e;injection e with e;subst e;exact⟨nl',rfl,q1,q2,q3⟩
   ·rw[hr'] at e;cases e
  ·refine⟨fun r2 e=> ?_,fun _=> .mk _ hg hg2⟩
   rw[hr'] at e;cases e
 ·rintro x hx t ⟨nl',sets',row',rfl,hrs,hl',hrow',tl,hts⟩
  have ha':sets'[i]? =some a:=by
   rw[hts,List.getElem?_append_left (List.getElem?_eq_some_iff.1 ha).1];exact ha
  have hd:=Wp hx
  rw[hxs] at hd
  have hsr:=IH R0 R1 S rows n ss h0 h1 hr hS hw hsz (nl:=nl') hrow' hx ha' had hl' ta
  rw[hd] at hrs
  cases hst:Ug ss a x sets' with
  |none=>
   rw[zt hst] at hrs
   obtain⟨t,g1,g2,g3⟩:=En (hsr.2 hst)
   exact .inr ⟨.ret,t,g1,rfl,.inr ⟨rfl,hrs,g2,g3⟩⟩
  |some r=>
   rw[Mt hst] at hrs
   obtain⟨nl2,g1⟩:=hsr.1 r hst
   obtain⟨k1,t2,k2⟩:=Kx hst hl'
   exact .inl ⟨_,g1,nl2,r.1,row'.set x r.2,rfl,hrs,k1,by simpa using hrow',tl++t2,by rw[k2,hts,List.append_assoc]⟩
 ·rintro t ⟨nl',sets',row',rfl,hrs,hl',hrow',tl,hts⟩
  rw[List.drop_eq_nil_of_le (by rw[← hxs,List.length_range];exact Nat.le_refl _)] at hrs
  refine⟨.exit 2,_,?_,rfl,.inl ⟨(sets',row'),rfl,hrs,nl',rfl,hl',hrow',tl,hts⟩⟩
  have e1:decide (((256:Nat):Int) < 256)=false:=by decide
  simp -implicitDefEqProofs only[SP,SA,SQ,sevalprocAttr,Zb,fa,ya,e1,Lj,wh]
end
end Go.AM.B1
namespace Go.AM.B1
open Go.AM
def cf (rs:List (List Int)):aa:= .seq 256 true (rs.flatMap Aa) 0 rs.isEmpty
theorem Dr (l:List Int):Aa l=(l.map i64).map .pv:=by simp[Aa]
theorem Ro (l:List Int):Bc (Aa l)=some (l.map i64):=by
 rw[Dr]
 induction l with
 |nil=>rfl
 |cons a l ih=>simp only[List.map_cons,Bc,ih,Option.map_some]
theorem xz (l:List Int):(Aa l).all AV.one=true:=by
 induction l with
 |nil=>rfl
 |cons a l ih=>simp only[Aa,List.map_cons,List.all_cons,AV.one,Bool.true_and] at ih ⊢;exact ih
theorem DS:List.map AV.pv (List.replicate 256 (PV.int .i64 0))=Aa (List.replicate 256 0):=by
 simp only[Aa,List.map_replicate]
theorem Fu {α:Type}:∀ (vs cs pre:List α),cs.length=vs.length→oa (pre++cs) pre.length vs=pre++vs
 | [],cs,pre,h=>by simp at h;subst h;rfl
 |v::vs,c::cs,pre,h=>by
  rw[oa]
  have h1:(pre++c::cs).set pre.length v=(pre++[v])++cs:=by
   rw[List.set_append_right _ _ (Nat.le_refl _)];simp
  rw[h1]
  have:=Fu vs cs (pre++[v]) (by simpa using h)
  simp only[List.length_append,List.length_cons,List.length_nil,Nat.zero_add] at this
  rw[this];simp
 |_::_,[],_,h=>by simp at h
theorem Ts (n d:Nat) (rs:List (List Int)):(rs.flatMap Aa).all (AV.Wc n d)=true:=by
 rw[List.all_eq_true]
 intro v hv
 rw[List.mem_flatMap] at hv
 obtain⟨r,_,hv⟩:=hv
 simp only[Aa,List.mem_map] at hv
 obtain⟨x,_,rfl⟩:=hv
 cases d <;> rfl
theorem Rz:∀ {rs:List (List Int)},(∀ r∈rs,r.length=256)→(rs.flatMap Aa).length=rs.length * 256
 | [],_=>rfl
 |r::rs,h=>by
  have:=Rz (rs:=rs) (fun x hx=>h x (by simp[hx]))
  simp only[List.flatMap_cons,List.length_append,Qa,h r (by simp),this,List.length_cons]
  omega
abbrev Dx (i:Int):Tr:=(Tr.lf.set 3 (.pv (i64 i))).set 0 (.ptr 3 0)
section
variable (R0 R1:aa) (S:PV) (nl:Bool) (sets:List Al) (rs:List (List Int)) (ss:List ec) (i:Nat)
 (h0:pa 7 R0=some R0) (h1:pa 7 R1=some R1) (g0:pa 6 R0=some R0) (g1:pa 6 R1=some R1)
 (hi:i < sets.length) (hl:sets.length≤64) (hrl:rs.length≤64) (hrr:∀ r∈rs,r.length=256)
include h0 h1 g0 g1 hi hl hrl hrr
theorem pM (nl':Bool) (sets':List Al) (row:List Int) (hrow:row.length=256)
 (hrowL:Fb (fa (ga (za ua 7) ya) (xa 7 [0,3,4,30])) wa ⟨Lj i 0,wh R0 R1 S nl sets (cf rs) rs.length [.box (Aa (List.replicate 256 0))]⟩=
  some (.exit 2,⟨(Lj i 256).set 31 (.pv (.bool false)),wh R0 R1 S nl' sets' (cf rs) rs.length [.box (Aa row)]⟩)):
 Zb (za ua 7) [0,3] Ua 6 ⟨Dx i,wh R0 R1 S nl sets (cf rs) rs.length []⟩=
  some (.norm,⟨Dx (i+1:Nat),wh R0 R1 S nl' sets' (cf (rs++[row])) (rs.length+1) []⟩):=by
 have hlen:(sets.map Wf).length=sets.length:=by simp
 have e1:decide ((i:Int) < (sets.length:Int))=true:=db (by omega)
 have t2:=Ab (i:=i) (n:=64) (by omega) (by unfold maxLen;omega)
 have p0:((Aa row).length=256)=True:=by rw[Qa,hrow];exact eq_self _
 have p1:(256≤(Aa row).length)=True:=by rw[Qa,hrow];exact eq_true (Nat.le_refl _)
 have p2:List.take 256 (Aa row)=Aa row:=List.take_of_length_le (by rw[Qa,hrow];exact Nat.le_refl _)
 have p3:=Ro row
 have p4:((row.map i64).length=256)=True:=by rw[List.length_map,hrow];exact eq_self _
 have p5:(256≤(Aa (List.replicate 256 0)).length)=True:=by rw[Qa,List.length_replicate];exact eq_true (Nat.le_refl _)
 have p6:oa (Aa (List.replicate 256 0)) 0 (Aa row)=Aa row:=by
  have:=Fu (Aa row) (Aa (List.replicate 256 0)) [] (by rw[Qa,Qa,hrow,List.length_replicate])
  rw[List.nil_append,List.nil_append] at this;exact this
 have p7:=xz row
 have p8:List.take 256 (row.map i64)=row.map i64:=List.take_of_length_le (by rw[List.length_map,hrow];exact Nat.le_refl _)
 have p9:(row.map i64).map AV.pv=Aa row:=(Dr row).symm
 have q1:(rs.length * 256=(rs.flatMap Aa).length)=True:=by rw[Rz hrr];exact eq_self _
 have q2:Cb (rs.length+1) 2048:=by unfold Cb;omega
 have q3:(rs++[row]).flatMap Aa=rs.flatMap Aa++Aa row:=by rw[List.flatMap_append,List.flatMap_cons,List.flatMap_nil,List.append_nil]
 have q4:(rs++[row]).isEmpty=false:=by cases rs <;> rfl
 have q5:=Ts 7 6 rs
 have q6:=Ts 6 6 (rs++[row])
 rw[q3] at q6
 simp only[Lj,wh,cf,Int.cast_ofNat_Int] at hrowL
 unfold wh cf
 rw[q3,q4]
 have hz2:=DS
 generalize hz:List.replicate 256 (0:Int)=zs at *
 simp -implicitDefEqProofs only[SP,SA,SQ,sevalprocAttr,-List.reduceReplicate,Zb,fa,Ua,hlen,e1,Tc,xa,Ra,Wj,Nj,xk,Pp,Ha,Km,AV.cut,Rb,h0,h1,g0,g1,Dx,hz2,q5]
 rw[hrowL]
 simp -implicitDefEqProofs only[SP,SA,SQ,sevalprocAttr,-List.reduceReplicate,List.append_nil,hlen,t2,p0,p1,p2,p3,p4,p5,p6,p7,p8,p9,q1,eq_true q2,q5,q6,fj,AV.GH,AV.Hr,hz2,Vi,xa,Ra,Wj,Nj,xk,Pp,Ha,Km,AV.cut,Rb,h0,h1,g0,g1]
end
end Go.AM.B1
