/- An abstract machine for the code of Go functions, and what each of its operations means in the model. -/
import Derived.WalkKit
import Derived.Orders
import Derived.KernelRfl
namespace Go.AM
inductive PV where
 |int (k:IntKind) (n:Int)
 |bool (b:Bool)
 |str (s:ByteArray)
 |yd | qa | pq | Vp | Mv
 |rp (row:List PV) (off:Nat)
 |lit (sz:Nat) (es:List PV)
 |agg (cs:List PV)
 |bc (vs:List PV)
 |iface (t:TypeId) (v:PV)
 deriving Inhabited
def PV.cells:PV→List PV
 | .agg cs=>cs
 |v=>[v]
def flat:List PV→List PV
 | []=>[]
 |e::es=>e.cells++flat es
inductive AV where
 |pv (p:PV)
 |ptr (id off:Nat)
 |ic (id n off:Nat)
 |uq (id:Nat) (nl:Bool) (sz:Nat) (es:List PV)
 |own (id len:Nat)
 |mi (ix:Nat) (caps:List AV)
 |mp (id:Nat)
 |agg (cs:List AV)
 |bc (vs:List AV)
 |undef
 deriving Inhabited
def AV.cells:AV→List AV
 | .pv p=>p.cells.map .pv
 | .agg cs=>cs
 |v=>[v]
def AV.one:AV→Bool
 | .pv (.agg _) | .pv (.bc _) | .agg _ | .bc _ | .undef=>false
 |_=>true
def Bc:List AV→Option (List PV)
 | []=>some []
 | .pv p::r=>(Bc r).map (p:: ·)
 |_=>none
def Wo (cs:List AV):AV:=
 match Bc cs with
 |some ps=> .pv (.agg ps)
 |none=> .agg cs
def Ep (cs:List AV):AV:=
 match Bc cs with
 |some ps=> .pv (.bc ps)
 |none=> .bc cs
inductive aa where
 |box (cells:List AV)
 |seq (sz:Nat) (ag:Bool) (cells:List AV) (fl:Nat) (nl:Bool)
 |tok (sz n:Nat) (nl:Bool)
 |map (es:List (PV×PV))
 |dead
 deriving Inhabited
inductive Tr where
 |lf
 |nd (v:AV) (a b:Tr)
def Tr.get:Tr→Nat→AV
 | .lf,_=> .undef
 | .nd v a b,k=>cond (Nat.beq k 0) v (cond (Nat.beq (k % 2) 1) (a.get (k / 2)) (b.get (k / 2 - 1)))
def Tr.dH:Nat→Tr→Nat→AV→Tr
 |0,t,_,_=>t
 |f+1,.lf,k,v=>cond (Nat.beq k 0) (.nd v .lf .lf) (cond (Nat.beq (k % 2) 1) (.nd .undef (dH f .lf (k / 2) v) .lf) (.nd .undef .lf (dH f .lf (k / 2 - 1) v)))
 |f+1,.nd u a b,k,v=>cond (Nat.beq k 0) (.nd v a b) (cond (Nat.beq (k % 2) 1) (.nd u (dH f a (k / 2) v) b) (.nd u a (dH f b (k / 2 - 1) v)))
def Tr.set (t:Tr) (k:Nat) (v:AV):Tr:=t.dH (k+1) k v
theorem cw {a b:Nat} (h:¬a=b):Nat.beq a b=false:=by
 cases e:Nat.beq a b with
 |false=>rfl
 |true=>exact absurd (Nat.eq_of_beq_eq_true e) h
theorem wM {a b:Nat} (h:a=b):Nat.beq a b=true:=by subst h;exact Nat.beq_refl a
theorem Tr.WO:∀ (f:Nat) (t:Tr) (k:Nat) (v:AV) (j:Nat),k < f→(t.dH f k v).get j=if j=k then v else t.get j:=by
 intro f
 induction f with
 |zero=>intro t k v j h;omega
 |succ f ih=>
  intro t k v j h
  cases t with
  |lf=>
   unfold Tr.dH
   by_cases hk:k=0
   ·subst hk
    simp only[Nat.beq_refl,cond_true,Tr.get]
    by_cases hj:j=0
    ·subst hj;simp
    ·have:Nat.beq j 0=false:=cw hj
     simp[this,hj]
   ·have hk':Nat.beq k 0=false:=cw hk
    simp only[hk',cond_false]
    by_cases hp:k % 2=1
    ·have hp':Nat.beq (k % 2) 1=true:=wM hp
     simp only[hp',cond_true,Tr.get]
     by_cases hj:j=0
     ·subst hj;simp[Ne.symm hk]
     ·have hj':Nat.beq j 0=false:=cw hj
      simp only[hj',cond_false]
      by_cases hjp:j % 2=1
      ·have hjp':Nat.beq (j % 2) 1=true:=wM hjp
       simp only[hjp',cond_true]
       rw[ih _ _ _ _ (by omega)]
       by_cases hjk:j=k
       ·subst hjk;simp
       ·have:¬j / 2=k / 2:=by omega
        simp[this,hjk,Tr.get]
      ·have hjp':Nat.beq (j % 2) 1=false:=cw hjp
       have:¬j=k:=by intro e;subst e;exact hjp hp
       simp[hjp',this]
    ·have hp':Nat.beq (k % 2) 1=false:=cw hp
     simp only[hp',cond_false,Tr.get]
     by_cases hj:j=0
     ·subst hj;simp[Ne.symm hk]
     ·have hj':Nat.beq j 0=false:=cw hj
      simp only[hj',cond_false]
      by_cases hjp:j % 2=1
      ·have hjp':Nat.beq (j % 2) 1=true:=wM hjp
       have:¬j=k:=by intro e;subst e;exact hp hjp
       simp[hjp',this]
      ·have hjp':Nat.beq (j % 2) 1=false:=cw hjp
       simp only[hjp',cond_false]
       rw[ih _ _ _ _ (by omega)]
       by_cases hjk:j=k
       ·subst hjk;simp
       ·have:¬j / 2 - 1=k / 2 - 1:=by omega
        simp[this,hjk,Tr.get]
  |nd u a b=>
   unfold Tr.dH
   by_cases hk:k=0
   ·subst hk
    simp only[Nat.beq_refl,cond_true,Tr.get]
    by_cases hj:j=0
    ·subst hj;simp
    ·have:Nat.beq j 0=false:=cw hj
     simp[this,hj]
   ·have hk':Nat.beq k 0=false:=cw hk
    simp only[hk',cond_false]
    by_cases hp:k % 2=1
    ·have hp':Nat.beq (k % 2) 1=true:=wM hp
     simp only[hp',cond_true,Tr.get]
     by_cases hj:j=0
     ·subst hj;simp[Ne.symm hk]
     ·have hj':Nat.beq j 0=false:=cw hj
      simp only[hj',cond_false]
      by_cases hjp:j % 2=1
      ·have hjp':Nat.beq (j % 2) 1=true:=wM hjp
       simp only[hjp',cond_true]
       rw[ih _ _ _ _ (by omega)]
       by_cases hjk:j=k
       ·subst hjk;simp
       ·have:¬j / 2=k / 2:=by omega
        simp[this,hjk]
      ·have hjp':Nat.beq (j % 2) 1=false:=cw hjp
       have:¬j=k:=by intro e;subst e;exact hjp hp
       simp[hjp',this]
    ·have hp':Nat.beq (k % 2) 1=false:=cw hp
     simp only[hp',cond_false,Tr.get]
     by_cases hj:j=0
     ·subst hj;simp[Ne.symm hk]
     ·have hj':Nat.beq j 0=false:=cw hj
      simp only[hj',cond_false]
      by_cases hjp:j % 2=1
      ·have hjp':Nat.beq (j % 2) 1=true:=wM hjp
       have:¬j=k:=by intro e;subst e;exact hp hjp
       simp[hjp',this]
      ·have hjp':Nat.beq (j % 2) 1=false:=cw hjp
       simp only[hjp',cond_false]
       rw[ih _ _ _ _ (by omega)]
       by_cases hjk:j=k
       ·subst hjk;simp
       ·have:¬j / 2 - 1=k / 2 - 1:=by omega
        simp[this,hjk]
theorem Tr.ba (t:Tr) (k:Nat) (v:AV) (j:Nat):(t.set k v).get j=if j=k then v else t.get j:=Tr.WO _ _ _ _ _ (Nat.lt_succ_self k)
structure St where
 env:Tr
 H:List aa
inductive AO where
 |t (n:Nat)
 |c (p:PV)
 |f (ix:Nat)
def AO.ev (e:Tr):AO→AV
 | .t n=>e.get n
 | .c p=> .pv p
 | .f ix=> .mi ix []
inductive Yd where
 |lit | uq | own
inductive Kd where
 |one (c:Nat)
 |row (ks:List Nat)
inductive Ec where
 |move (x:AO)
 |pick (c a b:AO)
 |alloc (zero:List PV)
 |box (n:Nat) (x:AO)
 |ZH (n:Nat) (x:AO)
 |build (zero:List PV) (parts:List (Nat×Nat×AO))
 |Hb (h:Yd) (sz:Nat) (ag:Bool) (len:Nat) (zero:List PV) (parts:List (Nat×AO))
 |load (ag:Bool) (n:Nat) (x:AO)
 |store (n:Nat) (a v:AO)
 |KA (x:AO)
 |bin (op:BinOp) (x y:AO)
 |eq (k:Nat) (neq:Bool) (x y:AO)
 |un (op:UnOp) (x:AO)
 |conv (k:IntKind) (x:AO)
 |GS (x:AO)
 |gQ (h:Yd) (x:AO)
 |ES (x:AO)
 |pD (ix:Nat) (caps:List AO)
 |ye (h:Yd) (sz:Nat) (ag:Bool) (zero:List PV) (bytes:Nat) (len cap:AO)
 |slice (sz:Nat) (x:AO) (lo hi:Option AO)
 |az (off:Nat) (x:AO)
 |IS (off:Nat) (ag:Bool) (n:Nat) (x:AO)
 |mg (sz:Nat) (x i:AO)
 |xu (n sz:Nat) (x i:AO)
 |fR (n sz:Nat) (ag:Bool) (x i:AO)
 |MS (x i:AO)
 |ext (i:Nat) (x:AO)
 |len (k:Nat) (x:AO)
 |mx (xs:List AO)
 |mn (xs:List AO)
 |append (own:Bool) (h:Yd) (sz:Nat) (ag:Bool) (bytes:Nat) (s x:AO)
 |AA
 |GR (kd:Kd) (neq:Bool) (x y:AO)
 |lookup (kn:Kd) (zero:PV) (ok:Bool) (m k:AO)
 |Jq (kn:Kd) (m k v:AO)
 |Gj (F:List PV→Option PV) (args:List AO)
 |Bd (ix:Nat) (args:List AO)
 |Px (f:AO) (args:List AO)
 |vz (ix:Nat) (args:List AO)
structure Oa where
 dst:Option Nat
 op:Ec
 guard:Option (Nat×Bool)
 pr:Bool
inductive gJ where
 |NF (t sz:Nat)
 |gK (t sz:Nat) (ag:Bool)
 |sy (t off sz:Nat)
 |XD (t off sz:Nat) (ag:Bool)
 |freeze (t:Nat)
inductive Ia where
 |skip
 |region (ops:List Oa)
 |seq (a b:Ia)
 |cond (c:AO) (a b:Ia)
 |block (id:Nat) (b:Ia)
 |scope (b:Ia)
 |loop (live:List Nat) (b:Ia)
 |Ll (live:List Nat) (b:Ia)
 |exit (id:Nat)
 |ret
 |ghost (g:gJ) (c:Ia)
 |range (ix:Nat) (F:List PV→Option (List (List PV))) (g:AO) (ps:List Nat) (asg:List (Nat×Nat)) (b:Ia)
 |Du (ix:Nat) (F:List PV→Option (List (List PV))) (g:AO) (ps:List Nat) (pre:List Oa) (b:Ia)
 |goto (l:Nat)
 |jumps (l:Nat) (a b:Ia)
inductive Ex where
 |norm
 |exit (id:Nat)
 |ret
 |goto (l:Nat)
inductive Gy where
 |tmp (t:Nat)
 |cell (t:Nat) (ag:Bool) (n:Nat)
structure re where
 np:Nat
 results:List Gy
 body:Ia
set_option linter.unusedVariables false
def Va {α β:Type} (f:α→Option β):List α→Option (List β)
 | []=>some []
 |a::r=>(f a).bind fun b=>(Va f r).bind fun bs=>some (b::bs)
def chunk (sz:Nat) (ag:Bool):Nat→List PV→List PV
 |0,_=>[]
 |n+1,cs=>((if ag then (.agg (cs.take sz)) else (cs.headD .yd)))::chunk sz ag n (cs.drop sz)
abbrev Dg (sz len fl n:Nat):Prop:=fl≤len * sz∧len * sz≤n
def Ab (H:List aa):Nat→AV→Option PV
 |_,.pv p=>some p
 |_,.uq _ nl sz es=>some ((if nl then .qa else (.lit sz es)))
 |0,_=>none
 |d+1,.own id len=>
  match H[id]? with
  |some (.seq sz ag cells fl nl)=>
   (if (len * sz=cells.length∧(ag||sz==1)=true) then ((if nl then (some .qa) else ((Va (Ab H d) cells).map fun ps=> .lit sz (chunk sz ag len ps)))) else none)
  |_=>none
 |d+1,.ptr id off=>
  match H[id]? with
  |some (.box cells)=>(Va (Ab H d) cells).map fun ps=> .rp ps off
  |_=>none
 |d+1,.agg cs=>(Va (Ab H d) cs).map .agg
 |d+1,.bc cs=>(Va (Ab H d) cs).map .bc
 |_,_=>none
def deep:Nat:=6
def AV.free:AV→Bool
 | .pv _=>true
 | .uq _ _ _ _=>true
 |_=>false
mutual
def bh:PV→Bool
 | .rp _ _=>false
 | .lit _ _=>false
 | .iface _ _=>false
 | .agg cs=>Mk cs
 | .bc cs=>Mk cs
 |_=>true
def Mk:List PV→Bool
 | []=>true
 |c::cs=>bh c&&Mk cs
end
def asInt:AV→Option (IntKind×Int)
 | .pv (.int k n)=>some (k,n)
 |_=>none
def asBool:AV→Option Bool
 | .pv (.bool b)=>some b
 |_=>none
def nK (n:Int):AV:= .pv (.int .i64 n)
def Gk (ag:Bool) (n:Nat) (cs:List PV) (off:Nat):Option PV:=
 (if ag then ((if ((off+n)≤cs.length) then (some (.agg ((cs.drop off).take n))) else none)) else cs[off]?)
def ng (ag:Bool) (n:Nat) (cs:List AV) (off:Nat):Option AV:=
 (if ag then ((if ((off+n)≤cs.length) then (some (Wo ((cs.drop off).take n))) else none)) else cs[off]?)
def oa {α:Type} (cs:List α) (off:Nat):List α→List α
 | []=>cs
 |v::vs=>oa (cs.set off v) (off+1) vs
def na (H:List aa) (ag:Bool) (n:Nat):AV→Option AV
 | .pv (.rp row off)=>(Gk ag n row off).map .pv
 | .ptr id off=>
   match H[id]? with
   |some (.box cells)=>ng ag n cells off
   |_=>none
 | .ic id m off=>
   match H[id]? with
   |some (.seq _ _ cells fl _)=>(if (cells.length=m) then (ng ag n cells off) else (if fl≤m∧0 < m then ((Bc (cells.take m)).bind fun ps=>(Gk ag n ps off).map .pv) else none))
   |_=>none
 |_=>none
def Pa (H:List aa) (n:Nat) (p v:AV):Option (List aa):=
 (if (v.cells.length=n∧v.cells.all AV.one) then (match p with
  | .ptr id off=>
    match H[id]? with
    |some (.box cells)=>(if ((off+n)≤cells.length) then (some (H.set id (.box (oa cells off v.cells)))) else none)
    |_=>none
  | .ic id m off=>
    match H[id]? with
    |some (.seq sz ag cells _ nl)=>(if (cells.length=m∧(off+n)≤m) then (some (H.set id (.seq sz ag (oa cells off v.cells) m nl))) else none)
    |_=>none
  |_=>none) else none)
def Oe (sz:Nat):AV→Option (List PV)
 | .pv .qa=>some []
 | .pv (.lit s ys)=>(if (s=sz) then (some ys) else none)
 | .pv (.str s)=>(if (sz=1) then (some (s.data.toList.map fun b=> .int .u8 b.toNat)) else none)
 | .uq _ _ s ys=>(if (s=sz) then (some ys) else none)
 |_=>none
def Zi (H:List aa) (sz:Nat):AV→Option (Nat×List AV)
 | .own id len=>
   match H[id]? with
   |some (.seq s _ cells fl nl)=>(if (s=sz∧len * sz=cells.length) then (some (len,cells)) else none)
   |_=>none
 |v=>(Oe sz v).map fun ys=>(ys.length,(flat ys).map .pv)
abbrev Cb (n bytes:Nat):Prop:=n * bytes≤140737488355328
def fresh (H:List aa) (h:Yd) (sz:Nat) (ag:Bool) (n:Nat) (cells:List AV):Option (AV×List aa):=
 match h with
 | .lit=>(Bc cells).map fun ps=>(.pv (.lit sz (chunk sz ag n ps)),H)
 | .uq=>(Bc cells).map fun ps=>(.uq H.length false sz (chunk sz ag n ps),H++[.tok sz n false])
 | .own=>some (.own H.length n,H++[.seq sz ag cells 0 false])
def bm (H:List aa) (h:Yd) (sz:Nat):List PV→Option (AV×List aa)
 | []=>some (.pv .qa,H)
 |y::ys=>match h with
  | .lit=>some (.pv (.lit sz (y::ys)),H)
  | .uq=>some (.uq H.length false sz (y::ys),H++[.tok sz (ys.length+1) false])
  | .own=>none
def Hc (H:List aa) (own:Bool) (h:Yd) (sz:Nat) (ag:Bool) (bytes:Nat) (s x:AV):Option (AV×List aa):=
 (if own then (match s with
  | .own id len=>
    match H[id]? with
    |some (.seq sz' ag' cells fl nl)=>
     (Zi H sz x).bind fun r=>
      (if (sz=sz'∧(len * sz)=cells.length∧Cb (len+r.1) bytes∧r.2.all AV.one) then (some (.own id (len+r.1),H.set id (.seq sz ag' (cells++r.2) fl (nl&&(r.1==0))))) else none)
    |_=>none
  |_=>none) else (match s with
  | .uq id nl sz' es=>
    match H[id]? with
    |some (.tok sz'' n _)=>
     (Oe sz x).bind fun ys=>
      (if (sz=sz'∧sz=sz''∧n=es.length∧Cb (es.length+ys.length) bytes) then (some (.uq id (nl&&ys.isEmpty) sz (es++ys),H.set id (.tok sz (es.length+ys.length) (nl&&ys.isEmpty)))) else none)
    |_=>none
  | .pv .qa=>
    (Oe sz x).bind fun ys=>
     (if (Cb ys.length bytes) then bm H h sz ys else none)
  |_=>none))
def place (H:List aa) (d:Nat):AV→Option AV
 | .pv (.rp row o)=>some (.pv (.rp row (o+d)))
 | .ptr id o=>
   match H[id]? with
   |some (.box _)=>some (.ptr id (o+d))
   |_=>none
 | .ic id n o=>
   match H[id]? with
   |some (.seq _ _ cells fl _)=>(if cells.length=n then (some (.ic id n (o+d))) else (if fl≤n∧0 < n then ((Bc (cells.take n)).map fun _=> .ic id n (o+d)) else none))
   |_=>none
 |_=>none
abbrev Ca (i:Int) (n:Nat):Prop:=0≤i∧i < (n:Int)
def ma (H:List aa) (sz:Nat) (x:AV) (i:Int):Option AV:=
 match x with
 | .pv (.lit s es)=>(if (s=sz∧Ca i es.length) then (es[i.toNat]?.map fun e=> .pv (.rp e.cells 0)) else none)
 | .uq _ _ s es=>(if (s=sz∧Ca i es.length) then (es[i.toNat]?.map fun e=> .pv (.rp e.cells 0)) else none)
 | .own id len=>
   match H[id]? with
   |some (.seq s _ cells fl _)=>
    (if (s=sz∧Ca i len∧Dg sz len fl cells.length) then (some (.ic id (len * sz) (i.toNat * sz))) else none)
   |_=>none
 |_=>none
def Mc (H:List aa):Nat→AV→Option Nat
 |0,.pv .qa=>some 0
 |0,.pv (.lit _ es)=>some es.length
 |1,.pv (.str s)=>some s.size
 |0,.uq _ _ _ es=>some es.length
 |0,.own id len=>
  match H[id]? with
  |some (.seq sz _ cells fl _)=>(if (Dg sz len fl cells.length) then (some len) else none)
  |_=>none
 |2,.pv .pq=>some 0
 |2,.mp id=>
  match H[id]? with
  |some (.map es)=>some es.length
  |_=>none
 |_,_=>none
def Ad (H:List aa) (sz:Nat) (x:AV) (lo:Option Int) (hi:Option Int):Option AV:=
 match x with
 | .pv .qa=>(if (0 < sz∧lo.getD 0=0∧hi.getD 0=0) then (some (.pv .qa)) else none)
 | .pv (.lit s es)=>
   let l:=lo.getD 0
   let h:=hi.getD es.length
   (if (0 < sz∧s=sz∧0≤l∧l≤h∧h≤(es.length:Int)) then (some (.pv (.lit sz ((es.take h.toNat).drop l.toNat)))) else none)
 | .uq _ nl s es=>
   let l:=lo.getD 0
   let h:=hi.getD es.length
   (if (0 < sz∧s=sz∧0≤l∧l≤h∧h≤(es.length:Int)) then (some (.pv ((if nl then .qa else (.lit sz ((es.take h.toNat).drop l.toNat)))))) else none)
 | .pv (.str s)=>
   let l:=lo.getD 0
   let h:=hi.getD s.size
   (if (sz=0∧0≤l∧l≤h∧h≤(s.size:Int)) then (some (.pv (.str (s.extract l.toNat h.toNat)))) else none)
 |_=>none
def Ls:Nat→PV→PV→Option Bool
 |0,.bool a,.bool b=>some (a==b)
 |1,.int k a,.int k' b=>if k=k' then some (a==b) else none
 |2,.str a,.str b=>some (a==b)
 |_,_,_=>none
def oj:List Nat→List PV→List PV→Option Bool
 | [],[],[]=>some true
 |k::ks,x::xs,y::ys=>(Ls k x y).bind fun b=>(oj ks xs ys).map fun c=>b&&c
 |_,_,_=>none
def Yi:Kd→PV→PV→Option Bool
 | .one c,x,y=>Ls c x y
 | .row ks,.agg xs,.agg ys=>oj ks xs ys
 |_,_,_=>none
def Dj (kd:Kd) (k:PV):List (PV×PV)→Nat→Option (Option (Nat×PV))
 | [],_=>some none
 |e::r,i=>(Yi kd k e.1).bind fun b=>(if b then (some (some (i,e.2))) else (Dj kd k r (i+1)))
def sm (H:List aa) (k:Nat) (x y:AV):Option Bool:=
 match k,x,y with
 |0,.pv (.bool a),.pv (.bool b)=>some (a==b)
 |1,.pv .yd,.pv .yd=>some true
 |1,.pv (.rp _ _),.pv .yd=>some false
 |1,.pv .yd,.pv (.rp _ _)=>some false
 |1,.ptr id _,.pv .yd=>
  match H[id]? with
  |some (.box _)=>some false
  |_=>none
 |2,.pv .qa,.pv .qa=>some true
 |2,.pv (.lit _ _),.pv .qa=>some false
 |2,.uq _ nl _ _,.pv .qa=>some nl
 |2,.own id len,.pv .qa=>
  match H[id]? with
  |some (.seq sz _ cells _ nl)=>(if (len * sz=cells.length) then (some nl) else none)
  |_=>none
 |3,.mi _ _,.pv .Vp=>some false
 |3,.pv .Vp,.pv .Vp=>some true
 |_,_,_=>none
def Nh (op:BinOp) (k:IntKind) (x y:Int):Option PV:=
 match op with
 | .add=>some (.int k (k.wrap (x+y)))
 | .sub=>some (.int k (k.wrap (x - y)))
 | .mul=>some (.int k (k.wrap (x * y)))
 | .quo=>(if (y=0) then none else (some (.int k (k.wrap (x.tdiv y)))))
 | .rem=>(if (y=0) then none else (some (.int k (x.tmod y))))
 | .and=>some (.int k (k.wrap ((BitVec.ofInt k.bits x &&& BitVec.ofInt k.bits y).toNat)))
 | .or=>some (.int k (k.wrap ((BitVec.ofInt k.bits x ||| BitVec.ofInt k.bits y).toNat)))
 | .xor=>some (.int k (k.wrap ((BitVec.ofInt k.bits x ^^^ BitVec.ofInt k.bits y).toNat)))
 | .eql=>some (.bool (x==y))
 | .neq=>some (.bool (x != y))
 | .lss=>some (.bool (decide (x < y)))
 | .leq=>some (.bool (decide (x≤y)))
 | .gtr=>some (.bool (decide (x > y)))
 | .geq=>some (.bool (decide (x≥y)))
 |_=>none
def LH (op:BinOp) (x y:ByteArray):Option PV:=
 match op with
 | .add=>(if (((x.size+y.size:Nat):Int)≤IntKind.i64.max) then (some (.str (x++y))) else none)
 | .eql=>some (.bool (x.data.toList==y.data.toList))
 | .neq=>some (.bool (!(x.data.toList==y.data.toList)))
 | .lss=>some (.bool (Op.bytesLess x.data.toList y.data.toList))
 | .geq=>some (.bool (!(Op.bytesLess x.data.toList y.data.toList)))
 |_=>none
def nH (op:BinOp) (x y:AV):Option PV:=
 match op,x,y with
 | .shl,.pv (.int k a),.pv (.int _ b)=>(if (b < 0) then none else (some (.int k (k.wrap (a * 2 ^ (min b.toNat k.bits))))))
 | .shr,.pv (.int k a),.pv (.int _ b)=>(if (b < 0) then none else (some (.int k (a.fdiv (2 ^ (min b.toNat k.bits))))))
 |op,.pv (.int k a),.pv (.int k' b)=>if k=k' then Nh op k a b else none
 |op,.pv (.str a),.pv (.str b)=>LH op a b
 |_,_,_=>none
def ZR (op:UnOp) (x:AV):Option PV:=
 match op,x with
 | .neg,.pv (.int k n)=>some (.int k (k.wrap (0 - n)))
 | .not,.pv (.bool b)=>some (.bool !b)
 | .xor,.pv (.int k n)=>some (.int k (k.wrap ((BitVec.ofInt k.bits (if k.signed then -1 else k.max) ^^^ BitVec.ofInt k.bits n).toNat)))
 |_,_=>none
def bytesOf:List PV→Option (List UInt8)
 | []=>some []
 | .int .u8 n::r=>(bytesOf r).map (UInt8.ofNat n.toNat:: ·)
 |_=>none
def iB (H:List aa) (x:AV):Option ByteArray:=
 match x with
 | .pv .qa=>some ByteArray.empty
 | .pv (.lit 1 es)=>(bytesOf es).map fun l=>⟨l.toArray⟩
 | .uq _ _ 1 es=>(bytesOf es).map fun l=>⟨l.toArray⟩
 | .own id len=>
   match H[id]? with
   |some (.seq sz _ cells _ nl)=>
    (if sz=1∧len * sz=cells.length then (if nl then some ByteArray.empty else ((Bc cells).bind bytesOf).map fun l=>⟨l.toArray⟩) else none)
   |_=>none
 |_=>none
def zd (mx:Bool):IntKind→Int→List AV→Option PV
 |k,x,[]=>some (.int k x)
 |k,x,.pv (.int _ y)::r=>zd mx k ((if mx then (if y > x then y else x) else (if y < x then y else x))) r
 |_,_,_=>none
def Un (mx:Bool):List AV→Option PV
 | .pv (.int k x)::r=>zd mx k x r
 |_=>none
def nm (cs:List AV):List (Nat×Nat×AV)→Option (List AV)
 | []=>some cs
 | (off,sz,v)::r=>(if (v.cells.length=sz∧off+sz≤cs.length∧v.cells.all AV.one) then (nm (oa cs off v.cells) r) else none)
def zi (zero:List PV):Nat→List AV
 |0=>[]
 |n+1=>zero.map .pv++zi zero n
def AV.Hs:AV→AV
 | .uq _ nl sz es=> .pv (if nl then .qa else (.lit sz es))
 |v=>v
def AV.cI:AV→AV
 | .agg cs=>Wo (cs.map AV.Hs)
 |v=>v.Hs
def fj (e:Tr) (x:AO):AV:=(x.ev e).cI
mutual
def PV.same:PV→PV→Bool
 | .int k n,.int k' n'=>decide (k=k')&&decide (n=n')
 | .bool a,.bool b=>a==b
 | .str a,.str b=>decide (a=b)
 | .yd,.yd=>true
 | .qa,.qa=>true
 | .pq,.pq=>true
 | .Vp,.Vp=>true
 | .Mv,.Mv=>true
 | .rp r o,.rp r' o'=>dr r r'&&decide (o=o')
 | .lit s e,.lit s' e'=>decide (s=s')&&dr e e'
 | .agg a,.agg b=>dr a b
 | .bc a,.bc b=>dr a b
 | .iface t v,.iface t' v'=>decide (t=t')&&PV.same v v'
 |_,_=>false
def dr:List PV→List PV→Bool
 | [],[]=>true
 |a::r,b::r'=>PV.same a b&&dr r r'
 |_,_=>false
end
mutual
def AV.same:AV→AV→Bool
 | .pv p,.pv q=>p.same q
 | .ptr a b,.ptr a' b'=>decide ((a,b)=(a',b'))
 | .ic a b c,.ic a' b' c'=>decide ((a,b,c)=(a',b',c'))
 | .uq a n s e,.uq a' n' s' e'=>decide ((a,n,s)=(a',n',s'))&&dr e e'
 | .own a b,.own a' b'=>decide ((a,b)=(a',b'))
 | .mi a l,.mi a' l'=>decide (a=a')&&eu l l'
 | .mp a,.mp b=>decide (a=b)
 | .agg a,.agg b=>eu a b
 | .bc a,.bc b=>eu a b
 | .undef,.undef=>true
 |_,_=>false
def eu:List AV→List AV→Bool
 | [],[]=>true
 |a::r,b::r'=>AV.same a b&&eu r r'
 |_,_=>false
end
def aa.same:aa→aa→Bool
 | .tok _ _ _,_=>true
 | .box a,.box b=>eu a b
 | .seq s g a f n,.seq s' g' a' f' n'=>decide ((s,g,f,n)=(s',g',f',n'))&&eu a a'
 | .map a,.map b=>dr (a.map (·.1)) (b.map (·.1))&&dr (a.map (·.2)) (b.map (·.2))
 | .dead,.dead=>true
 |_,_=>false
def Uz:List aa→List aa→Bool
 | [],_=>true
 |o::r,o'::r'=>o.same o'&&Uz r r'
 |_,_=>false
abbrev Fa:=Nat→List AV→List aa→Option (AV×List aa)
def da (call:Fa) (e:Tr) (H:List aa):Ec→Option (AV×List aa)
 | .move x=>some (x.ev e,H)
 | .pick c a b=>(asBool (c.ev e)).bind fun t=>some ((if t then (a.ev e) else (b.ev e)),H)
 | .alloc zero=>some (.ptr H.length 0,H++[.box (zero.map .pv)])
 | .box n x=>(if ((x.ev e).cells.length=n∧(x.ev e).cells.all AV.one) then (some (.ptr H.length 0,H++[.box (x.ev e).cells])) else none)
 | .ZH n x=>(if ((x.ev e).cells.length=n∧(x.ev e).cells.all AV.one) then ((Va (Ab [] 0) (x.ev e).cells).map fun ps=>(.pv (.rp ps 0),H)) else none)
 | .build zero parts=>(nm (zero.map .pv) (parts.map fun p=>(p.1,p.2.1,p.2.2.ev e))).map fun cs=>(Wo cs,H)
 | .Hb h sz ag len zero parts=>
   (nm (zi zero len) (parts.map fun p=>(p.1 * sz,sz,fj e p.2))).bind fun cs=>
    (if (cs.all AV.one) then (fresh H h sz ag len cs) else none)
 | .load ag n x=>(na H ag n (x.ev e)).map fun v=>(v,H)
 | .store n a v=>(Pa H n (a.ev e) (v.ev e)).map fun H'=>(.pv (.bc []),H')
 | .KA x=>
   match x.ev e with
   | .mi ix caps=>some (.mi ix caps,H)
   |v=>(place H 0 v).map fun v=>(v,H)
 | .bin op x y=>(nH op (x.ev e) (y.ev e)).map fun p=>(.pv p,H)
 | .eq k neq x y=>(sm H k (x.ev e) (y.ev e)).map fun b=>(.pv (.bool ((if neq then (!b) else b))),H)
 | .un op x=>(ZR op (x.ev e)).map fun p=>(.pv p,H)
 | .conv k x=>(asInt (x.ev e)).map fun n=>(.pv (.int k (k.wrap n.2)),H)
 | .GS x=>(iB H (x.ev e)).map fun s=>(.pv (.str s),H)
 | .gQ h x=>
   match x.ev e with
   | .pv (.str s)=>fresh H h 1 false s.size (s.data.toList.map fun b=> .pv (.int .u8 b.toNat))
   |_=>none
 | .ES x=>
   match x.ev e with
   | .uq id false 1 es=>
     match H[id]? with
     |some (.tok 1 n false)=>(if (n=es.length) then (some (.pv (.lit 1 es),H.set id .dead)) else none)
     |_=>none
   |_=>none
 | .pD ix caps=>some (.mi ix (caps.map (·.ev e)),H)
 | .ye h sz ag zero bytes len cap=>
   (asInt (len.ev e)).bind fun l=>(asInt (cap.ev e)).bind fun c=>
    (if (0≤l.2∧l.2≤c.2∧Cb c.2.toNat bytes) then (fresh H h sz ag l.2.toNat (zi zero l.2.toNat)) else none)
 | .slice sz x lo hi=>
   match lo,hi with
   |none,none=>(Ad H sz (x.ev e) none none).map fun v=>(v,H)
   |some l,none=>(asInt (l.ev e)).bind fun l=>(Ad H sz (x.ev e) (some l.2) none).map fun v=>(v,H)
   |none,some h=>(asInt (h.ev e)).bind fun h=>(Ad H sz (x.ev e) none (some h.2)).map fun v=>(v,H)
   |some l,some h=>(asInt (l.ev e)).bind fun l=>(asInt (h.ev e)).bind fun h=>(Ad H sz (x.ev e) (some l.2) (some h.2)).map fun v=>(v,H)
 | .az off x=>(place H off (x.ev e)).map fun v=>(v,H)
 | .IS off ag n x=>
   match x.ev e with
   | .pv (.agg cs)=>(Gk ag n cs off).map fun p=>(.pv p,H)
   | .agg cs=>(ng ag n cs off).map fun p=>(p,H)
   |_=>none
 | .mg sz x i=>(asInt (i.ev e)).bind fun i=>(ma H sz (x.ev e) i.2).map fun v=>(v,H)
 | .xu n sz x i=>
   (asInt (i.ev e)).bind fun i=>(if Ca i.2 n then ((place H (i.2.toNat * sz) (x.ev e)).map fun v=>(v,H)) else none)
 | .fR n sz ag x i=>
   (asInt (i.ev e)).bind fun i=>(if (Ca i.2 n) then (match x.ev e with
    | .pv (.agg cs)=>(Gk ag sz cs (i.2.toNat * sz)).map fun p=>(.pv p,H)
    | .agg cs=>(ng ag sz cs (i.2.toNat * sz)).map fun p=>(p,H)
    |_=>none) else none)
 | .MS x i=>
   (asInt (i.ev e)).bind fun i=>
    match x.ev e with
    | .pv (.str s)=>(if (0≤i.2) then (s.data.toList[i.2.toNat]?.map fun b=>(.pv (.int .u8 b.toNat),H)) else none)
    |_=>none
 | .ext i x=>
   match x.ev e with
   | .pv (.bc vs)=>vs[i]?.map fun p=>(.pv p,H)
   | .bc vs=>vs[i]?.map fun p=>(p,H)
   |_=>none
 | .len k x=>(Mc H k (x.ev e)).map fun (n:Nat)=>(nK (n:Int),H)
 | .mx xs=>(Un true (xs.map (·.ev e))).map fun p=>(.pv p,H)
 | .mn xs=>(Un false (xs.map (·.ev e))).map fun p=>(.pv p,H)
 | .append own h sz ag bytes s x=>Hc H own h sz ag bytes (s.ev e) (x.ev e)
 | .GR kd neq x y=>
   match x.ev e,y.ev e with
   | .pv p,.pv q=>(Yi kd p q).map fun b=>(.pv (.bool ((if neq then (!b) else b))),H)
   |_,_=>none
 | .AA=>some (.mp H.length,H++[.map []])
 | .lookup kn zero ok m k=>
   match m.ev e,k.ev e with
   | .pv .pq,.pv k=>(if ((Yi kn k k).isSome) then (some ((if ok then (.pv (.bc [zero,.bool false])) else (.pv zero)),H)) else none)
   | .mp id,.pv k=>
     match H[id]? with
     |some (.map es)=>(if ((Yi kn k k).isSome) then ((Dj kn k es 0).map fun r=>
       match r with
       |some (_,v)=>((if ok then (.pv (.bc [v,.bool true])) else (.pv v)),H)
       |none=>((if ok then (.pv (.bc [zero,.bool false])) else (.pv zero)),H)) else none)
     |_=>none
   |_,_=>none
 | .Jq kn m k v=>
   match m.ev e,k.ev e,v.ev e with
   | .mp id,.pv k,.pv v=>
     match H[id]? with
     |some (.map es)=>(if ((Yi kn k k).isSome) then ((Dj kn k es 0).map fun r=>
       match r with
       |some (i,_)=>(.pv (.bc []),H.set id (.map (es.set i (k,v))))
       |none=>(.pv (.bc []),H.set id (.map (es++[(k,v)])))) else none)
     |_=>none
   |_,_,_=>none
 | .Gj F args=>(Va (Ab H deep) (args.map (·.ev e))).bind fun ps=>(F ps).bind fun r=>(if (((args.map (·.ev e)).all AV.free||bh r)=true) then (some (.pv r,H)) else none)
 | .Bd ix args=>call ix (args.map (·.ev e)) H
 | .Px f args=>
   match f.ev e with
   | .mi ix caps=>call ix (args.map (·.ev e)++caps) H
   |_=>none
 | .vz ix args=>(call ix (args.map (·.ev e)) H).bind fun r=>(if Uz H r.2=true then some r else none)
def Se (e:Tr):Option (Nat×Bool)→Option Bool
 |none=>some true
 |some (t,want)=>
  match e.get t with
  | .pv (.bool b)=>some (b==want)
  | .pv (.bc [])=>some false
  |_=>none
def cm (e:Tr) (d:Option Nat) (v:AV):Tr:=
 match d with
 |some d=>e.set d v
 |none=>e
def Yw (d:Option Nat) (e:Tr):Option (AV×List aa)→Option St
 |some (v,H)=>some ⟨cm e d v,H⟩
 |none=>none
def AR (H:List aa):Option (AV×List aa)→Option (AV×List aa)
 |some (v,[])=>some (v,H)
 |_=>none
def zh (call:Fa) (e:Tr) (H:List aa) (o:Oa):Option (AV×List aa):=cond o.pr (AR H (da call e [] o.op)) (da call e H o.op)
def CI (call:Fa) (o:Oa) (s:St):Option St:=Yw o.dst s.env (zh call s.env s.H o)
def zu (o:Oa) (s:St):Option St:=some ⟨cm s.env o.dst (.pv (.bc [])),s.H⟩
def Uj (f g:St→Option St) (s:St):Option Bool→Option St
 |some true=>f s
 |some false=>g s
 |none=>none
def Nc (call:Fa) (o:Oa) (s:St):Option St:=Uj (CI call o) (zu o) s (Se s.env o.guard)
def On (f:St→Option St):Option St→Option St
 |some s=>f s
 |none=>none
def Pd (call:Fa):List Oa→St→Option St
 | [],s=>some s
 |o::r,s=>On (Pd call r) (Nc call o s)
def AV.cut (n:Nat):Nat→AV→Option AV
 |_,.pv p=>some (.pv p)
 |_,.ptr id off=>(if (id < n) then (some (.ptr id off)) else none)
 |_,.ic id m off=>(if (id < n) then (some (.ic id m off)) else none)
 |_,.uq id nl sz es=>(if (id < n) then (some (.uq id nl sz es)) else (some (.pv ((if nl then .qa else (.lit sz es))))))
 |_,.own id len=>(if (id < n) then (some (.own id len)) else none)
 |_,.mp id=>(if (id < n) then (some (.mp id)) else none)
 |_,.undef=>some .undef
 |0,_=>none
 |d+1,.mi ix caps=>(Va (AV.cut n d) caps).map (.mi ix)
 |d+1,.agg cs=>(Va (AV.cut n d) cs).map .agg
 |d+1,.bc cs=>(Va (AV.cut n d) cs).map .bc
def Qa (n:Nat) (e:Tr):List Nat→Option Tr
 | []=>some .lf
 |t::r=>((e.get t).cut n deep).bind fun v=>(Qa n e r).map fun e'=>e'.set t v
def AV.Wc (n:Nat):Nat→AV→Bool
 |_,.pv _=>true
 |_,.ptr id _=>decide (id < n)
 |_,.ic id _ _=>decide (id < n)
 |_,.uq id _ _ _=>decide (id < n)
 |_,.own id _=>decide (id < n)
 |_,.mp id=>decide (id < n)
 |_,.undef=>true
 |0,_=>false
 |d+1,.mi _ caps=>caps.all (AV.Wc n d)
 |d+1,.agg cs=>cs.all (AV.Wc n d)
 |d+1,.bc cs=>cs.all (AV.Wc n d)
def pa (n:Nat):aa→Option aa
 | .box cells=>(Va (AV.cut n deep) cells).map .box
 | .seq sz ag cells fl nl=>(if (cells.all (AV.Wc n deep)=true) then (some (.seq sz ag cells fl nl)) else none)
 | .tok sz m nl=>some (.tok sz m nl)
 | .map es=>some (.map es)
 | .dead=>some .dead
def xa (n:Nat) (live:List Nat) (s:St):Option St:=
 (Qa n s.env live).bind fun e=>(Va (pa n) (s.H.take n)).map fun H=>⟨e,H⟩
def Xb (e:Tr):List Nat→Tr
 | []=> .lf
 |t::r=>(Xb e r).set t (e.get t)
def tidy (live:List Nat) (s:St):St:=⟨Xb s.env live,s.H⟩
def ff (g:gJ) (s:St):Option St:=
 match g with
 | .NF t sz=>
   match s.env.get t with
   | .pv .qa=>(if 0 < sz then (some ⟨s.env.set t (.uq s.H.length true sz []),s.H++[.tok sz 0 true]⟩) else none)
   |_=>none
 | .gK t sz ag=>
   match s.env.get t with
   | .pv .qa=>(if 0 < sz then (some ⟨s.env.set t (.own s.H.length 0),s.H++[.seq sz ag [] 0 true]⟩) else none)
   |_=>none
 | .sy t off sz=>
   match s.env.get t with
   | .ptr id o=>
     match s.H[id]? with
     |some (.box cells)=>
      match cells[o+off]? with
      |some (.pv .qa)=>(if 0 < sz then (some ⟨s.env,s.H.set id (.box (cells.set (o+off) (.uq s.H.length true sz [])))++[.tok sz 0 true]⟩) else none)
      |_=>none
     |_=>none
   |_=>none
 | .XD t off sz ag=>
   match s.env.get t with
   | .ptr id o=>
     match s.H[id]? with
     |some (.box cells)=>
      match cells[o+off]? with
      |some (.pv .qa)=>(if 0 < sz then (some ⟨s.env,s.H.set id (.box (cells.set (o+off) (.own s.H.length 0)))++[.seq sz ag [] 0 true]⟩) else none)
      |_=>none
     |_=>none
   |_=>none
 | .freeze t=>
   match s.env.get t with
   | .own id len=>
     match s.H[id]? with
     |some (.seq sz ag cells _ nl)=>
      (if (len * sz=cells.length∧(ag||sz==1)=true) then ((if nl then (some ⟨s.env.set t (.pv .qa),s.H.set id .dead⟩) else ((Bc cells).map fun ps=>⟨s.env.set t (.pv (.lit sz (chunk sz ag len ps))),s.H.set id .dead⟩))) else none)
     |_=>none
   | .ptr id o=>
     match s.H[id]? with
     |some (.box cells)=>(Bc cells).map fun ps=>⟨s.env.set t (.pv (.rp ps o)),s.H.set id .dead⟩
     |_=>none
   |_=>none
def wa:Nat:=18446744073709551616
def Tt (f:St→Option (Ex×St)):Option (Ex×St)→Option (Ex×St)
 |some (.norm,s)=>f s
 |r=>r
def Hj:Option St→Option (Ex×St)
 |some s=>some (.norm,s)
 |none=>none
def br (f g:St→Option (Ex×St)) (s:St):Option Bool→Option (Ex×St)
 |some true=>f s
 |some false=>g s
 |none=>none
def vj (id:Nat):Option (Ex×St)→Option (Ex×St)
 |some (.exit id',s)=>if id'=id then some (.norm,s) else some (.exit id',s)
 |r=>r
def fa (f:St→Option (Ex×St)) (cl:St→Option St) (s:St):Option (Ex×St):=Tt (fun s=>Hj (cl s)) (f s)
def Eb (g:St→Option (Ex×St)):Nat→St→Option (Ex×St)
 |0,_=>none
 |n+1,s=>Tt (Eb g n) (g s)
def Jk (f:St→Option (Ex×St)):Option St→Option (Ex×St)
 |some s=>f s
 |none=>none
def WA:Option (Ex×St)→Option (Ex×St)
 |some (.goto _,_)=>none
 |r=>r
def Xo (l:Nat) (f:St→Option (Ex×St)):Option (Ex×St)→Option (Ex×St)
 |some (.goto l',s)=>if l'=l then WA (f s) else none
 |r=>r
def Ml:List Nat→List PV→Tr→Tr
 |p::ps,x::xs,e=>Ml ps xs (e.set p (.pv x))
 |_,_,e=>e
def Gw:List (Nat×Nat)→Tr→Tr
 | [],e=>e
 | (d,t)::r,e=>Gw r (e.set d (e.get t))
def eN (n:Nat) (x:List PV):Bool:=x.length==n&&Mk x
def pn (go:List aa→Option (Ex×List aa)):Option (Ex×St)→Option (Ex×List aa)
 |some (.norm,s)=>go s.H
 |some (.goto _,_)=>none
 |some (ex,s)=>some (ex,s.H)
 |none=>none
def Og (f:List PV→List aa→Option (Ex×St)):List (List PV)→List aa→Option (Ex×List aa)
 | [],H=>some (.norm,H)
 |x::xs,H=>pn (Og f xs) (f x H)
def dt (ix:Nat) (F:List PV→Option (List (List PV))) (n:Nat):AV→Option (List (List PV))
 | .mi i caps=>if i=ix then (Bc caps).bind fun cs=>(F cs).bind fun xs=>if xs.all (eN n) then some xs else none else none
 |_=>none
def xM (e:Tr):Option (Ex×List aa)→Option (Ex×St)
 |some (ex,H)=>some (ex,⟨e,H⟩)
 |none=>none
def Ms (f:Tr→List aa→Option (Ex×St)) (ps:List Nat) (asg:List (Nat×Nat)) (s:St):Option (List (List PV))→Option (Ex×St)
 |some xs=>xM s.env (Og (fun x H=>f (Gw asg (Ml ps x s.env)) H) xs s.H)
 |none=>none
def ga (call:Fa):Ia→St→Option (Ex×St)
 | .skip,s=>some (.norm,s)
 | .region ops,s=>Hj (Pd call ops s)
 | .seq a b,s=>Tt (ga call b) (ga call a s)
 | .cond c a b,s=>br (ga call a) (ga call b) s (asBool (c.ev s.env))
 | .block id b,s=>vj id (ga call b s)
 | .scope b,s=>ga call b s
 | .loop live b,s=>Jk (Eb (fa (ga call b) (xa s.H.length live)) wa) (xa s.H.length live s)
 | .Ll live b,s=>Eb (fa (ga call b) (fun s=>some (tidy live s))) wa (tidy live s)
 | .exit id,s=>some (.exit id,s)
 | .ret,s=>some (.ret,s)
 | .ghost g c,s=>Jk (ga call c) (ff g s)
 | .range ix F g ps asg b,s=>Ms (fun e H=>ga call b ⟨e,H⟩) ps asg s (dt ix F ps.length (g.ev s.env))
 | .Du ix F g ps pre b,s=>Ms (fun e H=>Jk (ga call b) (Pd call pre ⟨e,H⟩)) ps [] s (dt ix F ps.length (g.ev s.env))
 | .goto l,s=>some (.goto l,s)
 | .jumps l a b,s=>Xo l (ga call b) (ga call a s)
def Hm:Nat→List AV→Tr
 |_,[]=> .lf
 |i,v::r=>(Hm (i+1) r).set i v
def Ey (s:St):Gy→Option AV
 | .tmp t=>some (s.env.get t)
 | .cell t ag n=>na s.H ag n (s.env.get t)
def eB:List AV→AV
 | [v]=>v
 |vs=>Ep vs
def zH (f:re) (s:St):Option AV:=(Va (Ey s) f.results).map eB
def lI (f:re):Option (Ex×St)→Option (AV×List aa)
 |some (.exit _,_)=>none
 |some (.goto _,_)=>none
 |some (_,s)=>(zH f s).map fun v=>(v,s.H)
 |none=>none
def Hd (call:Fa) (f:re) (args:List AV) (H:List aa):Option (AV×List aa):=
 if args.length=f.np then lI f (ga call f.body ⟨Hm 0 args,H⟩) else none
def za (L:Nat→Option re):Nat→Fa
 |0=>fun _ _ _=>none
 |d+1=>fun ix args H=>(L ix).bind fun f=>Hd (za L d) f args H
def fc (L:Nat→Option re) (f:re) (args:List PV):Option PV:=
 (Hd (za L 8) f (args.map .pv) []).bind fun r=>Ab r.2 deep r.1
end Go.AM
namespace Go.AM
open Go.RowKit
abbrev Rd:=Nat→Nat→Option Value
structure se where
 n:Nat
 R:Rd
 S:Nat→Prop:=fun _=>False
instance:Coe se Nat:=⟨se.n⟩
def spare:Obj→Bool
 | .cells .. =>false
 | .map .. =>false
 |_=>true
structure Ve (B0:se) (w w':World):Prop extends RowKit.Below B0.n w w' where
 Wc:∀ (k:Nat) (o:Obj),w.heap[k]? =some o→spare o=true→w'.heap[k]? =some o
 held:∀ (k:Nat),B0.S k→w'.heap[k]? =w.heap[k]?
theorem Ve.refl (B0:se) (w:World):Ve B0 w w:=⟨.refl _ _,fun _ _ h _=>h,fun _ _=>rfl⟩
theorem Ve.trans {B0:se} {a b c:World} (h:Ve B0 a b) (k:Ve B0 b c):Ve B0 a c:=⟨h.toBelow.trans k.toBelow,fun i o h1 h2=>k.Wc i o (h.Wc i o h1 h2) h2,fun i hi=>(k.held i hi).trans (h.held i hi)⟩
theorem nj {w:World} {k:Nat} {o:Obj} (h:w.heap[k]? =some o):k < w.heap.size:=(Array.getElem?_eq_some_iff.1 h).1
theorem Ve.Lr {B0:se} {w w':World} (h:RowKit.Below w.heap.size w w') (hb:B0.n≤w.heap.size) (hs:∀ k,B0.S k→k < w.heap.size):Ve B0 w w':=
 ⟨h.mono hb,fun k o h1 _=>by rw[h.block k (nj h1)];exact h1,fun k hk=>h.block k (hs k hk)⟩
theorem Ve.bD {B0:se} {w w':World} {b:Nat} {ob:Obj} (h0:w.heap[b]? =some ob) (hob:spare ob=false) (h1:w'.os=w.os) (h2:w'.tape=w.tape) (h3:w'.output=w.output) (h4:w.heap.size≤w'.heap.size) (hb:B0.n≤b) (hs:∀ k,B0.S k→k < w.heap.size) (hf:¬B0.S b)
 (h:∀ k,k < w.heap.size→k≠b→w'.heap[k]? =w.heap[k]?):Ve B0 w w':=
 ⟨⟨h1,h2,h3,h4,fun k hk=>h k (by have:=nj h0;omega) (by omega)⟩,fun k o h5 h6=>by
  rw[h k (nj h5) (fun e=>by subst e;rw[h0] at h5;cases h5;rw[hob] at h6;cases h6)];exact h5,
  fun k hk=>h k (hs k hk) (fun e=>hf (e ▸ hk))⟩
mutual
inductive Ea (R:Rd):PV→Value→Prop
 |int (k:IntKind) (n:Int):Ea R (.int k n) (.int k n)
 |bool (b:Bool):Ea R (.bool b) (.bool b)
 |str (s:ByteArray):Ea R (.str s) (.string s)
 |yd:Ea R .yd (.pointer none)
 |qa:Ea R .qa (.slice none 0 0)
 |pq:Ea R .pq (.map none)
 |Vp:Ea R .Vp .nilFunc
 |Mv:Ea R .Mv .nilIface
 |rp (row:List PV) (off b o:Nat):we R row b o→Ea R (.rp row off) (.pointer (some ⟨b,o+off,none⟩))
 |lit (sz:Nat) (es:List PV) (b o cap:Nat):es.length≤cap→(∀ e∈es,e.cells.length=sz)→we R (flat es) b o→Ea R (.lit sz es) (.slice (some ⟨b,o,none⟩) es.length cap)
 |Oy (sz:Nat) (a:Addr):Ea R (.lit sz []) (.slice (some a) 0 0)
 |agg (cs:List PV) (vs:List Value):xd R cs vs→Ea R (.agg cs) (.agg ⟨vs⟩)
 |bc (cs:List PV) (vs:List Value):xd R cs vs→Ea R (.bc cs) (.tuple ⟨vs⟩)
 |iface (t:TypeId) (p:PV) (v:Value):Ea R p v→Ea R (.iface t p) (.iface t v)
inductive we (R:Rd):List PV→Nat→Nat→Prop
 |nil (b o:Nat):we R [] b o
 |cons (c:PV) (cs:List PV) (b o:Nat) (v:Value):R b o=some v→v.oneCell'=true→Ea R c v→we R cs b (o+1)→we R (c::cs) b o
inductive xd (R:Rd):List PV→List Value→Prop
 |nil:xd R [] []
 |cons (c:PV) (cs:List PV) (v:Value) (vs:List Value):Ea R c v→xd R cs vs→xd R (c::cs) (v::vs)
end
def Sub (R R':Rd):Prop:=∀ b o v,R b o=some v→R' b o=some v
theorem Sub.refl (R:Rd):Sub R R:=fun _ _ _ h=>h
theorem Sub.trans {R R' R'':Rd} (h:Sub R R') (h':Sub R' R''):Sub R R'':=fun b o v e=>h' b o v (h b o v e)
mutual
theorem Ea.mono {R R':Rd} (hs:Sub R R'):∀ {p:PV} {v:Value},Ea R p v→Ea R' p v
 |_,_,.int _ _=> .int _ _
 |_,_,.bool _=> .bool _
 |_,_,.str _=> .str _
 |_,_,.yd=> .yd
 |_,_,.qa=> .qa
 |_,_,.pq=> .pq
 |_,_,.Vp=> .Vp
 |_,_,.Mv=> .Mv
 |_,_,.rp _ _ _ _ h=> .rp _ _ _ _ (we.mono hs h)
 |_,_,.lit _ _ _ _ _ h1 h2 h3=> .lit _ _ _ _ _ h1 h2 (we.mono hs h3)
 |_,_,.Oy _ _=> .Oy _ _
 |_,_,.agg _ _ h=> .agg _ _ (xd.mono hs h)
 |_,_,.bc _ _ h=> .bc _ _ (xd.mono hs h)
 |_,_,.iface _ _ _ h=> .iface _ _ _ (Ea.mono hs h)
theorem we.mono {R R':Rd} (hs:Sub R R'):∀ {p:List PV} {b o:Nat},we R p b o→we R' p b o
 |_,_,_,.nil _ _=> .nil _ _
 |_,_,_,.cons _ _ _ _ _ h1 h0 h2 h3=> .cons _ _ _ _ _ (hs _ _ _ h1) h0 (Ea.mono hs h2) (we.mono hs h3)
theorem xd.mono {R R':Rd} (hs:Sub R R'):∀ {p:List PV} {v:List Value},xd R p v→xd R' p v
 |_,_,.nil=> .nil
 |_,_,.cons _ _ _ _ h1 h2=> .cons _ _ _ _ (Ea.mono hs h1) (xd.mono hs h2)
end
theorem xd.length {R:Rd} {ps:List PV} {vs:List Value} (h:xd R ps vs):vs.length=ps.length:=by
 induction ps generalizing vs with
 |nil=>cases h;rfl
 |cons p ps ih=>cases h with | cons _ _ _ _ _ h2=>simp[ih h2]
theorem xd.get {R:Rd} {ps:List PV} {vs:List Value} (h:xd R ps vs) {i:Nat} {p:PV} (hp:ps[i]? =some p):∃ v,vs[i]? =some v∧Ea R p v:=by
 induction ps generalizing vs i with
 |nil=>simp at hp
 |cons q ps ih=>
  cases h with
  |cons _ _ v vs h1 h2=>
   cases i with
   |zero=>simp at hp;subst hp;exact⟨v,rfl,h1⟩
   |succ i=>simpa using ih h2 (by simpa using hp)
theorem xd.take {R:Rd} {ps:List PV} {vs:List Value} (h:xd R ps vs) (n:Nat):xd R (ps.take n) (vs.take n):=by
 induction ps generalizing vs n with
 |nil=>cases h;simpa using xd.nil
 |cons q ps ih=>
  cases h with
  |cons _ _ v vs h1 h2=>
   cases n with
   |zero=>simpa using xd.nil
   |succ n=>simpa using xd.cons _ _ _ _ h1 (ih h2 n)
theorem xd.drop {R:Rd} {ps:List PV} {vs:List Value} (h:xd R ps vs) (n:Nat):xd R (ps.drop n) (vs.drop n):=by
 induction ps generalizing vs n with
 |nil=>cases h;simpa using xd.nil
 |cons q ps ih=>
  cases h with
  |cons _ _ v vs h1 h2=>
   cases n with
   |zero=>simpa using xd.cons _ _ _ _ h1 h2
   |succ n=>simpa using ih h2 n
theorem we.get {R:Rd} {ps:List PV} {b o:Nat} (h:we R ps b o) {i:Nat} {p:PV} (hp:ps[i]? =some p):∃ v,R b (o+i)=some v∧Ea R p v:=by
 induction ps generalizing o i with
 |nil=>simp at hp
 |cons q ps ih=>
  cases h with
  |cons _ _ _ _ v h0 hone h1 h2=>
   cases i with
   |zero=>simp at hp;subst hp;exact⟨v,h0,h1⟩
   |succ i=>
    obtain⟨u,hu,hr⟩:=ih h2 (i:=i) (by simpa using hp)
    exact⟨u,by rw[← hu];congr 1;omega,hr⟩
theorem we.drop {R:Rd} {ps:List PV} {b o:Nat} (h:we R ps b o) (n:Nat):we R (ps.drop n) b (o+n):=by
 induction ps generalizing o n with
 |nil=>simpa using we.nil _ _
 |cons q ps ih=>
  cases n with
  |zero=>simpa using h
  |succ n=>
   cases h with
   |cons _ _ _ _ v h0 hone h1 h2=>
    have:=ih h2 n
    rw[show o+(n+1)=o+1+n from by omega]
    simpa using this
theorem we.take {R:Rd} {ps:List PV} {b o:Nat} (h:we R ps b o) (n:Nat):we R (ps.take n) b o:=by
 induction ps generalizing o n with
 |nil=>simpa using we.nil _ _
 |cons q ps ih=>
  cases n with
  |zero=>simpa using we.nil _ _
  |succ n=>
   cases h with
   |cons _ _ _ _ v h0 hone h1 h2=>simpa using we.cons _ _ _ _ _ h0 hone h1 (ih h2 n)
theorem we.append {R:Rd} {ps qs:List PV} {b o:Nat} (h:we R ps b o) (h':we R qs b (o+ps.length)):we R (ps++qs) b o:=by
 induction ps generalizing o with
 |nil=>simpa using h'
 |cons q ps ih=>
  cases h with
  |cons _ _ _ _ v h0 hone h1 h2=>exact we.cons _ _ _ _ _ h0 hone h1 (ih h2 (by rw[show o+1+ps.length=o+(q::ps).length from by simp;omega];exact h'))
theorem we.yk {R:Rd} {ps:List PV} {vs:List Value} {b o:Nat} (h:xd R ps vs) (h1s:∀ v∈vs,v.oneCell'=true) (hr:∀ i v,vs[i]? =some v→R b (o+i)=some v):we R ps b o:=by
 induction ps generalizing vs o with
 |nil=>exact .nil _ _
 |cons p ps ih=>
  cases h with
  |cons _ _ v vs h1 h2=>
   refine .cons _ _ _ _ v (by simpa using hr 0 v rfl) (h1s v (by simp)) h1 (ih h2 (fun u hu=>h1s u (by simp[hu])) fun i u hu=> ?_)
   have:=hr (i+1) u (by simpa using hu)
   rw[← this];congr 1;omega
theorem we.list {R:Rd} {ps:List PV} {b o:Nat} (h:we R ps b o):∃ vs,xd R ps vs∧(∀ v∈vs,v.oneCell'=true)∧∀ i v,vs[i]? =some v→R b (o+i)=some v:=by
 induction ps generalizing o with
 |nil=>exact⟨[],.nil,by simp,fun i v h=>by simp at h⟩
 |cons p ps ih=>
  cases h with
  |cons _ _ _ _ v h0 hone h1 h2=>
   obtain⟨vs,h3,h5,h4⟩:=ih h2
   refine⟨v::vs,.cons _ _ _ _ h1 h3,(fun u hu=>by rcases List.mem_cons.1 hu with rfl | hu;exact hone;exact h5 u hu),fun i u hu=> ?_⟩
   cases i with
   |zero=>simp at hu;subst hu;simpa using h0
   |succ i=>
    have:=h4 i u (by simpa using hu)
    rw[← this];congr 1;omega
theorem Rx (xs ys:List PV):flat (xs++ys)=flat xs++flat ys:=by
 induction xs with
 |nil=>rfl
 |cons x xs ih=>simp[flat,ih]
theorem Il {sz:Nat} {es:List PV} (h:∀ e∈es,e.cells.length=sz):(flat es).length=es.length * sz:=by
 induction es with
 |nil=>simp[flat]
 |cons e es ih=>
  have h1:=h e (by simp)
  have h2:=ih fun x hx=>h x (by simp[hx])
  simp[flat,h1,h2,Nat.add_mul];omega
theorem Kt {sz:Nat} {es:List PV} (h:∀ e∈es,e.cells.length=sz) (n:Nat):flat (es.drop n)=(flat es).drop (n * sz):=by
 induction es generalizing n with
 |nil=>simp[flat]
 |cons e es ih=>
  cases n with
  |zero=>simp
  |succ n=>
   have h1:=h e (by simp)
   have h2:=ih (fun x hx=>h x (by simp[hx])) n
   simp only[List.drop_succ_cons,h2,flat]
   rw[List.drop_append,h1]
   have:(n+1) * sz - sz=n * sz:=by rw[Nat.add_mul];omega
   rw[List.drop_eq_nil_of_le (as:=e.cells) (by rw[h1,Nat.add_mul];omega),this,List.nil_append]
theorem Dp {sz:Nat} {es:List PV} (h:∀ e∈es,e.cells.length=sz) (n:Nat):flat (es.take n)=(flat es).take (n * sz):=by
 induction es generalizing n with
 |nil=>simp[flat]
 |cons e es ih=>
  cases n with
  |zero=>simp[flat]
  |succ n=>
   have h1:=h e (by simp)
   have h2:=ih (fun x hx=>h x (by simp[hx])) n
   simp only[List.take_succ_cons,h2,flat]
   rw[List.take_append,h1]
   have:(n+1) * sz - sz=n * sz:=by rw[Nat.add_mul];omega
   rw[List.take_of_length_le (l:=e.cells) (by rw[h1,Nat.add_mul];omega),this]
theorem IF {sz:Nat} {es:List PV} (h:∀ e∈es,e.cells.length=sz) {i:Nat} {e:PV} (he:es[i]? =some e):((flat es).drop (i * sz)).take sz=e.cells:=by
 rw[← Kt h i]
 have hl:i < es.length:=by
  rcases Nat.lt_or_ge i es.length with h | h
  ·exact h
  ·rw[List.getElem?_eq_none h] at he;cases he
 have:es.drop i=e::es.drop (i+1):=by
  rw[List.getElem?_eq_getElem hl] at he
  injection he with he
  rw[← he];exact List.drop_eq_getElem_cons hl
 rw[this]
 simp only[flat]
 have h1:=h e (List.mem_of_getElem? he)
 rw[List.take_append,h1,Nat.sub_self,List.take_zero,List.append_nil,List.take_of_length_le (by omega)]
abbrev Pl:=Nat→Nat×Nat
def K (R:Rd) (φ:Pl) (H:List aa):AV→Value→Prop
 | .pv p,v=>Ea R p v
 | .ptr id off,v=>id < H.length∧v.oneCell'=true∧∀ c,H[id]? =some (.box c)→v= .pointer (some ⟨(φ id).1,off,none⟩)
 | .ic id n off,v=>id < H.length∧v.oneCell'=true∧∀ sz ag c fl nl,H[id]? =some (.seq sz ag c fl nl)→n≤c.length∧(fl≤n→(c.length=n→v= .pointer (some ⟨(φ id).1,off,none⟩))∧
    ∀ ps,Bc (c.take n)=some ps→0 < n→v= .pointer (some ⟨(φ id).1,off,none⟩)∨∃ b o,v= .pointer (some ⟨b,o+off,none⟩)∧we R ps b o)
 | .uq id nl sz es,v=>id < H.length∧(nl=true→v= .slice none 0 0∧es=[])∧(nl=false→Ea R (.lit sz es) v)∧
    ∀ sz' n nl',H[id]? =some (.tok sz' n nl')→es.length≤n∧(n=es.length→nl'=nl∧sz'=sz∧(nl=false→v= .slice (some ⟨(φ id).1,0,none⟩) n (φ id).2))
 | .own id len,v=>id < H.length∧v.oneCell'=true∧∀ sz ag c fl nl,H[id]? =some (.seq sz ag c fl nl)→len * sz≤c.length∧(fl≤len * sz→
    (nl=true→v= .slice none 0 0)∧
    (nl=false→(len=0∧c≠[]∧v= .slice none 0 0)∨∃ b o cap,v= .slice (some ⟨b,o,none⟩) len cap∧(len * sz=c.length→b=(φ id).1∧o=0∧cap=(φ id).2)∧
     (∀ ps,Bc (c.take (len * sz))=some ps→(b=(φ id).1∧o=0)∨we R ps b o)))
 | .mp id,v=>id < H.length∧v.oneCell'=true∧∀ es,H[id]? =some (.map es)→v= .map (some (φ id).1)
 |_,_=>False
mutual
inductive Yb (fo:Nat→FuncId) (K:AV→Value→Prop):AV→Value→Prop
 |atom (a:AV) (v:Value):K a v→Yb fo K a v
 |mi (ix:Nat) (cs:List AV) (vs:List Value):La fo K cs vs→Yb fo K (.mi ix cs) (.func (.func (fo ix)) #[] ⟨vs⟩)
 |agg (cs:List AV) (vs:List Value):La fo K cs vs→Yb fo K (.agg cs) (.agg ⟨vs⟩)
 |bc (cs:List AV) (vs:List Value):La fo K cs vs→Yb fo K (.bc cs) (.tuple ⟨vs⟩)
 |undef (v:Value):Yb fo K .undef v
inductive La (fo:Nat→FuncId) (K:AV→Value→Prop):List AV→List Value→Prop
 |nil:La fo K [] []
 |cons (a:AV) (as:List AV) (v:Value) (vs:List Value):Yb fo K a v→La fo K as vs→La fo K (a::as) (v::vs)
end
mutual
theorem Yb.mono {fo:Nat→FuncId} {K K':AV→Value→Prop} (hk:∀ a v,K a v→K' a v):∀ {a:AV} {v:Value},Yb fo K a v→Yb fo K' a v
 |_,_,.atom _ _ h=> .atom _ _ (hk _ _ h)
 |_,_,.mi _ _ _ h=> .mi _ _ _ (La.mono hk h)
 |_,_,.agg _ _ h=> .agg _ _ (La.mono hk h)
 |_,_,.bc _ _ h=> .bc _ _ (La.mono hk h)
 |_,_,.undef _=> .undef _
theorem La.mono {fo:Nat→FuncId} {K K':AV→Value→Prop} (hk:∀ a v,K a v→K' a v):∀ {a:List AV} {v:List Value},La fo K a v→La fo K' a v
 |_,_,.nil=> .nil
 |_,_,.cons _ _ _ _ h1 h2=> .cons _ _ _ _ (Yb.mono hk h1) (La.mono hk h2)
end
section lists
variable {fo:Nat→FuncId} {K:AV→Value→Prop}
theorem La.length {as:List AV} {vs:List Value} (h:La fo K as vs):vs.length=as.length:=by
 induction as generalizing vs with
 |nil=>cases h;rfl
 |cons p ps ih=>cases h with | cons _ _ _ _ _ h2=>simp[ih h2]
theorem La.get {as:List AV} {vs:List Value} (h:La fo K as vs) {i:Nat} {a:AV} (hp:as[i]? =some a):∃ v,vs[i]? =some v∧Yb fo K a v:=by
 induction as generalizing vs i with
 |nil=>simp at hp
 |cons q ps ih=>
  cases h with
  |cons _ _ v vs h1 h2=>
   cases i with
   |zero=>simp at hp;subst hp;exact⟨v,rfl,h1⟩
   |succ i=>simpa using ih h2 (by simpa using hp)
theorem La.take {as:List AV} {vs:List Value} (h:La fo K as vs) (n:Nat):La fo K (as.take n) (vs.take n):=by
 induction as generalizing vs n with
 |nil=>cases h;simpa using La.nil
 |cons q ps ih=>
  cases h with
  |cons _ _ v vs h1 h2=>
   cases n with
   |zero=>simpa using La.nil
   |succ n=>simpa using La.cons _ _ _ _ h1 (ih h2 n)
theorem La.drop {as:List AV} {vs:List Value} (h:La fo K as vs) (n:Nat):La fo K (as.drop n) (vs.drop n):=by
 induction as generalizing vs n with
 |nil=>cases h;simpa using La.nil
 |cons q ps ih=>
  cases h with
  |cons _ _ v vs h1 h2=>
   cases n with
   |zero=>simpa using La.cons _ _ _ _ h1 h2
   |succ n=>simpa using ih h2 n
theorem La.append {as bs:List AV} {vs us:List Value} (h:La fo K as vs) (h':La fo K bs us):La fo K (as++bs) (vs++us):=by
 induction as generalizing vs with
 |nil=>cases h;simpa using h'
 |cons q ps ih=>
  cases h with
  |cons _ _ v vs h1 h2=>exact .cons _ _ _ _ h1 (ih h2)
theorem La.set {as:List AV} {vs:List Value} (h:La fo K as vs) (i:Nat) {a:AV} {v:Value} (hv:Yb fo K a v):La fo K (as.set i a) (vs.set i v):=by
 induction as generalizing vs i with
 |nil=>cases h;simpa using La.nil
 |cons q ps ih=>
  cases h with
  |cons _ _ u us h1 h2=>
   cases i with
   |zero=>exact .cons _ _ _ _ hv h2
   |succ i=>exact .cons _ _ _ _ h1 (ih h2 i)
theorem La.ey {R:Rd} {φ:Pl} {H:List aa} {ps:List PV} {vs:List Value} (h:xd R ps vs):La fo (AM.K R φ H) (ps.map .pv) vs:=by
 induction ps generalizing vs with
 |nil=>cases h;exact .nil
 |cons p ps ih=>cases h with | cons _ _ v vs h1 h2=>exact .cons _ _ _ _ (.atom _ _ h1) (ih h2)
theorem La.AS {α:Type} {f:α→AV} {g:α→Value} (l:List α) (h:∀ x∈l,Yb fo K (f x) (g x)):La fo K (l.map f) (l.map g):=by
 induction l with
 |nil=>exact .nil
 |cons x l ih=>exact .cons _ _ _ _ (h x (by simp)) (ih fun y hy=>h y (by simp[hy]))
end lists
theorem Yb.qb {fo:Nat→FuncId} {R:Rd} {φ:Pl} {H:List aa} {p:PV} {v:Value} (h:Yb fo (K R φ H) (.pv p) v):Ea R p v:=by
 cases h with | atom _ _ h=>exact h
theorem Kh {fo:Nat→FuncId} {R:Rd} {φ:Pl} {H:List aa} {as:List AV} {ps:List PV} {vs:List Value} (hp:Bc as=some ps) (h:La fo (K R φ H) as vs):xd R ps vs:=by
 induction as generalizing ps vs with
 |nil=>simp[Bc] at hp;subst hp;cases h;exact .nil
 |cons a as ih=>
  cases a with
  |pv p=>
   simp only[Bc,Option.map_eq_some_iff] at hp
   obtain⟨qs,hq,rfl⟩:=hp
   cases h with | cons _ _ v vs h1 h2=>exact .cons _ _ _ _ h1.qb (ih hq h2)
  |_=>simp[Bc] at hp
theorem Jh {as:List AV} {ps:List PV} (hp:Bc as=some ps):as=ps.map .pv:=by
 induction as generalizing ps with
 |nil=>simp[Bc] at hp;subst hp;rfl
 |cons a as ih=>
  cases a with
  |pv p=>
   simp only[Bc,Option.map_eq_some_iff] at hp
   obtain⟨qs,hq,rfl⟩:=hp
   simp[ih hq]
  |_=>simp[Bc] at hp
theorem nE (ps:List PV):Bc (ps.map .pv)=some ps:=by
 induction ps with
 |nil=>rfl
 |cons p ps ih=>simp[Bc,ih]
theorem Ro {fo:Nat→FuncId} {R:Rd} {φ:Pl} {H:List aa} {as:List AV} {vs:List Value} (h:La fo (K R φ H) as vs):Yb fo (K R φ H) (Wo as) (.agg ⟨vs⟩):=by
 unfold Wo
 cases e:Bc as with
 |some ps=>exact .atom _ _ (show Ea R _ _ from .agg _ _ (Kh e h))
 |none=>exact .agg _ _ h
theorem YB {fo:Nat→FuncId} {R:Rd} {φ:Pl} {H:List aa} {as:List AV} {vs:List Value} (h:La fo (K R φ H) as vs):Yb fo (K R φ H) (Ep as) (.tuple ⟨vs⟩):=by
 unfold Ep
 cases e:Bc as with
 |some ps=>exact .atom _ _ (show Ea R _ _ from .bc _ _ (Kh e h))
 |none=>exact .bc _ _ h
def vl:aa→Prop
 | .box _=>True
 | .seq _ _ _ _ nl=>nl=false
 | .tok _ _ nl=>nl=false
 | .map _=>True
 | .dead=>False
def live (H:List aa) (i:Nat):Prop:=∃ o,H[i]? =some o∧vl o
def Xt (w:World) (b:Nat) (arr:Array Value):Prop:=∃ ty fz,w.heap[b]? =some (.cells arr ty fz)∧∀ o,o < arr.size→¬(fz.1≤o∧o < fz.2)
def Ks (R:Rd):List (PV×PV)→List MapEntry→Prop
 | [],[]=>True
 |e::es,x::xs=>Ea R e.1 x.key∧Ea R e.2 x.val∧Ks R es xs
 |_,_=>False
theorem Ks.mono {R R':Rd} (hk:∀ p v,Ea R p v→Ea R' p v):∀ {es:List (PV×PV)} {xs:List MapEntry},Ks R es xs→Ks R' es xs
 | [],[],_=>trivial
 |_::_,_::_,h=>⟨hk _ _ h.1,hk _ _ h.2.1,Ks.mono hk h.2.2⟩
 | [],_::_,h=>h.elim
 |_::_,[],h=>h.elim
def uw (fo:Nat→FuncId) (B0:se) (w:World) (R:Rd) (φ:Pl) (H:List aa) (id:Nat):aa→Prop
 | .box cells=>B0≤(φ id).1∧(∀ o,R (φ id).1 o=none)∧cells.all AV.one=true∧∃ arr,Xt w (φ id).1 arr∧La fo (K R φ H) cells arr.toList
 | .seq sz _ cells fl nl=>0 < sz∧fl≤cells.length∧(nl=true→cells=[])∧cells.all AV.one=true∧
    (nl=false→B0≤(φ id).1∧(∀ o,R (φ id).1 o=none)∧∃ arr,Xt w (φ id).1 arr∧arr.size=(φ id).2 * sz∧cells.length≤arr.size∧La fo (K R φ H) cells (arr.toList.take cells.length))
 | .tok sz n nl=>0 < sz∧(nl=true→n=0)∧
    (nl=false→B0≤(φ id).1∧(∀ o,n * sz≤o→R (φ id).1 o=none)∧∃ arr,Xt w (φ id).1 arr∧arr.size=(φ id).2 * sz∧n * sz≤arr.size)
 | .map es=>B0≤(φ id).1∧(∀ o,R (φ id).1 o=none)∧∃ ents clk,w.heap[(φ id).1]? =some (.map ents clk)∧Ks R es ents.toList
 | .dead=>True
structure Kb (fo:Nat→FuncId) (B0:se) (w:World) (R:Rd) (φ:Pl) (H:List aa):Prop where
 low:B0≤w.heap.size
 sub:∀ b o v,R b o=some v→w.cell? ⟨b,o,none⟩=some v
 obj:∀ id o,H[id]? =some o→uw fo B0 w R φ H id o
 inj:∀ i j,live H i→live H j→(φ i).1=(φ j).1→i=j
 ml:∀ b o,b < B0.n→R b o=B0.R b o
 slt:∀ k,B0.S k→k < w.heap.size
 free:∀ i,live H i→¬B0.S (φ i).1
def og (fo:Nat→FuncId) (K:AV→Value→Prop) (e:Tr) (a:Act):Prop:=∀ t,Yb fo K (e.get t) (a.tmps.getD t undef)
theorem og.mono {fo:Nat→FuncId} {K K':AV→Value→Prop} {e:Tr} {a:Act} (h:og fo K e a) (hk:∀ a v,K a v→K' a v):og fo K' e a:=fun t=>(h t).mono hk
theorem Xt.lt {w:World} {b:Nat} {arr:Array Value} (h:Xt w b arr):b < w.heap.size:=by
 obtain⟨ty,fz,h,_⟩:=h
 rcases Nat.lt_or_ge b w.heap.size with hlt | hge
 ·exact hlt
 ·rw[Array.getElem?_eq_none hge] at h;cases h
theorem Xt.cell {w:World} {b:Nat} {arr:Array Value} (h:Xt w b arr) (o:Nat):w.cell? ⟨b,o,none⟩=arr[o]? :=by
 obtain⟨ty,fz,h,_⟩:=h
 simp[World.cell?,h]
theorem Xt.frozen {w:World} {b:Nat} {arr:Array Value} (h:Xt w b arr) {o:Nat} (ho:o < arr.size):w.frozen? ⟨b,o,none⟩=false:=by
 obtain⟨ty,fz,h,hf⟩:=h
 have:=hf o ho
 simp only[World.frozen?,h]
 rw[← Bool.not_eq_true]
 simpa using this
theorem Xt.Wc {w w':World} {b:Nat} {arr:Array Value} (h:Xt w b arr) (hk:w'.heap[b]? =w.heap[b]?):Xt w' b arr:=by
 obtain⟨ty,fz,h,hf⟩:=h
 exact⟨ty,fz,hk.trans h,hf⟩
theorem Ri {w:World} {b o:Nat} {v:Value} (h:w.cell? ⟨b,o,none⟩=some v):b < w.heap.size:=by
 rcases Nat.lt_or_ge b w.heap.size with hlt | hge
 ·exact hlt
 ·simp[World.cell?,Array.getElem?_eq_none hge] at h
end Go.AM
namespace Go.AM
open Go.RowKit
theorem uk (b o j:Nat):(⟨b,o,none⟩:Addr).add j=⟨b,o+j,none⟩:=by
 unfold Addr.add
 by_cases h:j=0
 ·subst h;simp
 ·simp[h]
theorem dc {α:Type} (cs:List α) (o:Nat) (vs:List α):(oa cs o vs).length=cs.length:=by
 induction vs generalizing cs o with
 |nil=>rfl
 |cons v vs ih=>simp[oa,ih]
theorem zF {α:Type} (vs:List α):∀ (cs:List α) (o n:Nat),o+vs.length≤n→(oa cs o vs).take n=oa (cs.take n) o vs:=by
 induction vs with
 |nil=>intro cs o n _;rfl
 |cons v vs ih=>
  intro cs o n h
  simp only[List.length_cons] at h
  simp only[oa]
  rw[ih _ _ _ (by omega),List.take_set]
section rel
variable {fo:Nat→FuncId} {K:AV→Value→Prop}
theorem La.oa {as bs:List AV} {vs us:List Value} (h:La fo K as vs) (o:Nat) (h':La fo K bs us):La fo K (AM.oa as o bs) (AM.oa vs o us):=by
 induction bs generalizing as vs us o with
 |nil=>cases h';exact h
 |cons b bs ih=>cases h' with | cons _ _ u us h1 h2=>exact ih (h.set o h1) (o+1) h2
end rel
def Wi (P:Program) (t:TypeId):Option Bool:=
 match P.underlying t with
 |some (.struct _)=>some true
 |some (.array _ _)=>some true
 |some _=>some false
 |none=>none
def Oc (P:Program) (t:TypeId):Option Nat:=(P.info? t).map (·.size)
def Sl (P:Program) (t:TypeId):Option Nat:=(P.info? t).map (·.bytes)
section runs
variable {P:Program}
theorem bq {t:TypeId} {b:Bool} (h:Wi P t=some b) (w:World):(isAgg t).run P w= .ok b w:=by
 unfold Wi at h
 cases hu:P.underlying t with
 |none=>simp[hu] at h
 |some d=>
  simp only[hu] at h
  simp only[isAgg,Sem.run_bind,run_underlying hu,Result.andThen_ok]
  cases d <;> simp_all
theorem Ob {t:TypeId} {n:Nat} (h:Oc P t=some n) (w:World):(sizeOf t).run P w= .ok n w:=by
 unfold Oc at h
 cases hi:P.info? t with
 |none=>simp[hi] at h
 |some i=>
  simp only[hi,Option.map_some,Option.some.injEq] at h
  simp[sizeOf,run_typeInfo w hi,h]
theorem gy {t:TypeId} {b o n:Nat} {vs:List Value} (w:World) (ha:Wi P t=some true) (hn:Oc P t=some n) (hl:vs.length=n)
 (hc:∀ j v,vs[j]? =some v→w.cell? ⟨b,o+j,none⟩=some v):(loadVar t ⟨b,o,none⟩).run P w= .ok (.agg ⟨vs⟩) w:=by
 have:=run_loadCells_list (P:=P) w ⟨b,o,none⟩ vs (fun j v hv=>by rw[uk];exact hc j v hv)
 rw[hl] at this
 simp[loadVar,bq ha,Ob hn,this]
theorem Lx {t:TypeId} {b o:Nat} {v:Value} (w:World) (ha:Wi P t=some false) (hc:w.cell? ⟨b,o,none⟩=some v):(loadVar t ⟨b,o,none⟩).run P w= .ok v w:=by
 simp[loadVar,bq ha,hc]
def Sm (w:World) (b:Nat) (arr:List Value) (ty:TypeId) (fz:Nat×Nat):World:={w with heap:=w.heap.setIfInBounds b (.cells ⟨arr⟩ ty fz)}
theorem Xl {b:Nat} {ty:TypeId} {fz:Nat×Nat} (o:Nat):∀ (vs:List Value) (i:Nat) (arr:List Value) (w:World),w.heap[b]? =some (.cells ⟨arr⟩ ty fz)→
 (∀ j,j < arr.length→¬(fz.1≤j∧j < fz.2))→o+i+vs.length≤arr.length→(∀ v∈vs,v.oneCell'=true)→
 (storeCells ⟨b,o,none⟩ vs i).run P w= .ok () (Sm w b (oa arr (o+i) vs) ty fz)
 | [],i,arr,w,hb,hf,hl,h1=>by
   obtain⟨hlt,hbe⟩:=Array.getElem?_eq_some_iff.1 hb
   have:w.heap.setIfInBounds b (.cells ⟨arr⟩ ty fz)=w.heap:=by
    apply Array.ext_getElem?
    intro j
    rw[Array.getElem?_setIfInBounds]
    by_cases e:b=j
    ·subst e;simp[hlt,hbe]
    ·simp[e]
   simp[storeCells,Sm,oa,this]
 |v::vs,i,arr,w,hb,hf,hl,h1=>by
  obtain⟨hlt,hbe⟩:=Array.getElem?_eq_some_iff.1 hb
  simp only[List.length_cons] at hl
  have hcell:w.cell? ⟨b,o+i,none⟩=some (arr[o+i]'(by omega)):=by
   simp only[World.cell?,hb]
   simp
  have hfr:w.frozen? ⟨b,o+i,none⟩=false:=by
   have:=hf (o+i) (by omega)
   simp only[World.frozen?,hb]
   rw[← Bool.not_eq_true]
   simpa using this
  have hset:(w.setCell ⟨b,o+i,none⟩ v)=Sm w b (arr.set (o+i) v) ty fz:=by
   unfold World.setCell Sm
   congr 1
   apply Array.ext_getElem?
   intro j
   rw[Array.getElem?_modify,Array.getElem?_setIfInBounds]
   by_cases e:b=j
   ·subst e;simp[hlt,hbe]
   ·simp[e]
  have ih:=Xl (b:=b) (ty:=ty) (fz:=fz) o vs (i+1) (arr.set (o+i) v) (Sm w b (arr.set (o+i) v) ty fz)
   (by simp[Sm,hlt]) (by simpa using hf) (by simp;omega) (fun u hu=>h1 u (by simp[hu]))
  simp only[storeCells,Sem.run_bind,uk]
  rw[run_store P w _ _ _ (h1 v (by simp))]
  simp only[hcell,hfr,Bool.false_eq_true,if_false,Result.andThen_ok,hset,ih]
  simp[Sm,oa,Nat.add_assoc]
theorem su {t:TypeId} {b o n:Nat} {ty:TypeId} {fz:Nat×Nat} {arr:List Value} {v:Value} (w:World) (hn:Oc P t=some n) (hv:v.cells.toList.length=n)
 (hb:w.heap[b]? =some (.cells ⟨arr⟩ ty fz)) (hf:∀ j,j < arr.length→¬(fz.1≤j∧j < fz.2)) (hl:o+n≤arr.length) (h1:∀ u∈v.cells.toList,u.oneCell'=true):
 (storeVar t ⟨b,o,none⟩ v).run P w= .ok () (Sm w b (oa arr o v.cells.toList) ty fz):=by
 have:=Xl (P:=P) (b:=b) o v.cells.toList 0 arr w hb hf (by omega) h1
 have hsz:v.cells.size=n:=by simpa using hv
 simp only[Nat.add_zero] at this
 simp[storeVar,Ob hn,hsz,this]
end runs
theorem HB {v:Value} (h:v.oneCell'=true):v.cells.toList=[v]:=by
 cases v <;> simp_all [Value.cells,Value.oneCell']
theorem Ea.one {R:Rd} {p:PV} {v:Value} (h:Ea R p v) (hp:(AV.pv p).one=true):v.oneCell'=true:=by
 cases h <;> simp_all [AV.one,Value.oneCell']
theorem Yb.one {fo:Nat→FuncId} {R:Rd} {φ:Pl} {H:List aa} {a:AV} {v:Value} (h:Yb fo (K R φ H) a v) (ha:a.one=true):v.oneCell'=true:=by
 cases h with
 |atom a v h=>
  cases a with
  |pv p=>exact Ea.one h ha
  |ptr id off=>exact h.2.1
  |ic id n off=>exact h.2.1
  |own id len=>exact h.2.1
  |mp id=>exact h.2.1
  |uq id nl sz es=>
   obtain⟨_,h1,h2,_⟩:=h
   cases nl with
   |true=>rw[(h1 rfl).1];rfl
   |false=>exact Ea.one (h2 rfl) rfl
  |mi ix cs=>exact h.elim
  |agg cs=>exact h.elim
  |bc cs=>exact h.elim
  |undef=>exact h.elim
 |mi ix cs vs h=>rfl
 |agg cs vs h=>simp[AV.one] at ha
 |bc cs vs h=>simp[AV.one] at ha
 |undef v=>simp[AV.one] at ha
theorem Ct {fo:Nat→FuncId} {R:Rd} {φ:Pl} {H:List aa} {a:AV} {v:Value} (h:Yb fo (K R φ H) a v) (hu:a.cells.all AV.one=true):
 La fo (K R φ H) a.cells v.cells.toList:=by
 have key:∀ {a:AV} {v:Value},Yb fo (K R φ H) a v→a.cells=[a]→a.cells.all AV.one=true→La fo (K R φ H) a.cells v.cells.toList:=by
  intro a v h e hu
  rw[e] at hu ⊢
  have h1:a.one=true:=by simpa using hu
  rw[HB (h.one h1)]
  exact .cons _ _ _ _ h .nil
 cases h with
 |atom a v h=>
  cases a with
  |pv p=>
   cases p with
   |agg cs=>
    have h2:Ea R (.agg cs) v:=h
    cases h2 with | agg _ vs hh=>simpa[AV.cells,PV.cells,Value.cells] using La.ey hh
   |_=>exact key (.atom _ _ h) rfl hu
  |agg cs=>exact h.elim
  |_=>exact key (.atom _ _ h) rfl hu
 |mi ix cs vs h=>exact key (.mi _ _ _ h) rfl hu
 |agg cs vs h=>simpa[AV.cells,Value.cells] using h
 |bc cs vs h=>exact key (.bc _ _ h) rfl hu
 |undef v=>exact key (.undef _) rfl hu
theorem gl {fo:Nat→FuncId} {R:Rd} {φ:Pl} {H:List aa} {as:List AV} {vs:List Value} (h:La fo (K R φ H) as vs) (ha:as.all AV.one=true):∀ v∈vs,v.oneCell'=true:=by
 induction as generalizing vs with
 |nil=>cases h;simp
 |cons a as ih=>
  cases h with
  |cons _ _ v vs h1 h2=>
   simp only[List.all_cons,Bool.and_eq_true] at ha
   intro u hu
   rcases List.mem_cons.1 hu with rfl | hu
   ·exact h1.one ha.1
   ·exact ih h2 ha.2 u hu
end Go.AM
namespace Go.AM
open Go.RowKit
def wj (φ:Pl) (id:Nat) (p:Nat×Nat):Pl:=fun i=>if i=id then p else φ i
theorem Xa (φ:Pl) (id:Nat) (p:Nat×Nat):wj φ id p id=p:=by simp[wj]
theorem Uc (φ:Pl) {id j:Nat} (p:Nat×Nat) (h:j≠id):wj φ id p j=φ j:=by simp[wj,h]
theorem K.sub {R R':Rd} {φ:Pl} {H:List aa} (hs:Sub R R') (a:AV) (v:Value) (h:K R φ H a v):K R' φ H a v:=by
 cases a with
 |pv p=>exact Ea.mono hs h
 |ptr id off=>exact h
 |ic id n off=>
  refine⟨h.1,h.2.1,fun sz ag c fl nl e=> ?_⟩
  obtain⟨k0,k⟩:=h.2.2 sz ag c fl nl e
  refine⟨k0,fun hf=> ?_⟩
  obtain⟨k1,k2⟩:=k hf
  refine⟨k1,fun ps hp h0=> ?_⟩
  rcases k2 ps hp h0 with q | ⟨b,o,q1,q2⟩
  ·exact .inl q
  ·exact .inr ⟨b,o,q1,q2.mono hs⟩
 |uq id nl sz es=>exact⟨h.1,h.2.1,fun e=>(h.2.2.1 e).mono hs,h.2.2.2⟩
 |own id len=>
  refine⟨h.1,h.2.1,fun sz ag c fl nl e=> ?_⟩
  obtain⟨k0,k⟩:=h.2.2 sz ag c fl nl e
  refine⟨k0,fun hf=> ?_⟩
  obtain⟨k1,k2⟩:=k hf
  refine⟨k1,fun hn=> ?_⟩
  rcases k2 hn with hq | ⟨b,o,cap,q1,q2,q3⟩
  ·exact .inl hq
  ·exact .inr ⟨b,o,cap,q1,q2,fun ps hp=>(q3 ps hp).imp (fun x=>x) (we.mono hs)⟩
 |mp id=>exact h
 |mi ix cs=>exact h.elim
 |agg cs=>exact h.elim
 |bc cs=>exact h.elim
 |undef=>exact h.elim
theorem getElem?_push {H:List aa} {o:aa} {id:Nat} (h:id < H.length):(H++[o])[id]? =H[id]? :=by
 rw[List.getElem?_append_left h]
theorem K.push {R:Rd} {φ:Pl} {H:List aa} (o:aa) (p:Nat×Nat) (a:AV) (v:Value) (h:K R φ H a v):K R (wj φ H.length p) (H++[o]) a v:=by
 have key:∀ {id:Nat},id < H.length→id < (H++[o]).length∧(H++[o])[id]? =H[id]? ∧wj φ H.length p id=φ id:=by
  intro id h
  exact⟨by simp;omega,getElem?_push h,Uc _ _ (by omega)⟩
 cases a with
 |pv p=>exact h
 |ptr id off=>
  obtain⟨k1,k2,k3⟩:=key h.1
  exact⟨k1,h.2.1,by rw[k2,k3];exact h.2.2⟩
 |ic id n off=>
  obtain⟨k1,k2,k3⟩:=key h.1
  exact⟨k1,h.2.1,by rw[k2,k3];exact h.2.2⟩
 |uq id nl sz es=>
  obtain⟨k1,k2,k3⟩:=key h.1
  exact⟨k1,h.2.1,h.2.2.1,by rw[k2,k3];exact h.2.2.2⟩
 |own id len=>
  obtain⟨k1,k2,k3⟩:=key h.1
  exact⟨k1,h.2.1,by rw[k2,k3];exact h.2.2⟩
 |mp id=>
  obtain⟨k1,k2,k3⟩:=key h.1
  exact⟨k1,h.2.1,by rw[k2,k3];exact h.2.2⟩
 |mi ix cs=>exact h.elim
 |agg cs=>exact h.elim
 |bc cs=>exact h.elim
 |undef=>exact h.elim
theorem uw.Wc {fo:Nat→FuncId} {B0:se} {w w':World} {R R':Rd} {φ φ':Pl} {H H':List aa} {id:Nat} {o:aa} (h:uw fo B0 w R φ H id o)
 (hl:vl o→w'.heap[(φ id).1]? =w.heap[(φ id).1]? ∧∀ j,R (φ id).1 j=none→R' (φ id).1 j=none) (hφ:φ' id=φ id) (hk:∀ a v,K R φ H a v→K R' φ' H' a v):
 uw fo B0 w' R' φ' H' id o:=by
 cases o with
 |box cells=>
  obtain⟨h1,h2,ha,arr,h3,h4⟩:=h
  obtain⟨l1,l2⟩:=hl trivial
  exact⟨by rw[hφ];exact h1,by rw[hφ];exact fun j=>l2 j (h2 j),ha,arr,by rw[hφ];exact h3.Wc l1,h4.mono hk⟩
 |seq sz ag cells fl nl=>
  obtain⟨h0,h1,h2,h4,h3⟩:=h
  refine⟨h0,h1,h2,h4,fun hn=> ?_⟩
  obtain⟨k1,k2,arr,k3,k4,k5,k6⟩:=h3 hn
  obtain⟨l1,l2⟩:=hl hn
  exact⟨by rw[hφ];exact k1,by rw[hφ];exact fun j=>l2 j (k2 j),arr,by rw[hφ];exact k3.Wc l1,by rw[hφ];exact k4,k5,k6.mono hk⟩
 |tok sz n nl=>
  obtain⟨h0,h2,h3⟩:=h
  refine⟨h0,h2,fun hn=> ?_⟩
  obtain⟨k1,k2,arr,k3,k4,k5⟩:=h3 hn
  obtain⟨l1,l2⟩:=hl hn
  exact⟨by rw[hφ];exact k1,by rw[hφ];exact fun j hj=>l2 j (k2 j hj),arr,by rw[hφ];exact k3.Wc l1,by rw[hφ];exact k4,k5⟩
 |map es=>
  obtain⟨h1,h2,ents,clk,h3,h4⟩:=h
  obtain⟨l1,l2⟩:=hl trivial
  exact⟨by rw[hφ];exact h1,by rw[hφ];exact fun j=>l2 j (h2 j),ents,clk,by rw[hφ,l1];exact h3,h4.mono fun p v hp=>hk (.pv p) v hp⟩
 |dead=>trivial
theorem uw.lt {fo:Nat→FuncId} {B0:se} {w:World} {R:Rd} {φ:Pl} {H:List aa} {id:Nat} {o:aa} (h:uw fo B0 w R φ H id o) (hl:vl o):(φ id).1 < w.heap.size:=by
 cases o with
 |box cells=>obtain⟨_,_,_,arr,h3,_⟩:=h;exact h3.lt
 |seq sz ag cells fl nl=>obtain⟨_,_,arr,h3,_⟩:=h.2.2.2.2 hl;exact h3.lt
 |tok sz n nl=>obtain⟨_,_,arr,h3,_⟩:=h.2.2 hl;exact h3.lt
 |map es=>
  obtain⟨_,_,ents,clk,h3,_⟩:=h
  rcases Nat.lt_or_ge (φ id).1 w.heap.size with hlt | hge
  ·exact hlt
  ·rw[Array.getElem?_eq_none hge] at h3;cases h3
 |dead=>exact hl.elim
theorem uw.base {fo:Nat→FuncId} {B0:se} {w:World} {R:Rd} {φ:Pl} {H:List aa} {id:Nat} {o:aa} (h:uw fo B0 w R φ H id o) (hl:vl o):B0.n≤(φ id).1:=by
 cases o with
 |box cells=>exact h.1
 |seq sz ag cells fl nl=>exact (h.2.2.2.2 hl).1
 |tok sz n nl=>exact (h.2.2 hl).1
 |map es=>exact h.1
 |dead=>exact hl.elim
theorem getElem?_lt {α:Type} {l:List α} {i:Nat} {x:α} (h:l[i]? =some x):i < l.length:=by
 rcases Nat.lt_or_ge i l.length with hl | hl
 ·exact hl
 ·rw[List.getElem?_eq_none hl] at h;cases h
theorem Kb.push {fo:Nat→FuncId} {B0:se} {w w':World} {R R':Rd} {φ:Pl} {H:List aa} {o:aa} {p:Nat×Nat} (hS:Kb fo B0 w R φ H)
 (hsz:w.heap.size≤w'.heap.size) (hw:∀ b,b < w.heap.size→w'.heap[b]? =w.heap[b]?) (hR:∀ b o,b < w.heap.size→R' b o=R b o) (hsub:∀ b o v,R' b o=some v→w'.cell? ⟨b,o,none⟩=some v)
 (hk:∀ a v,K R φ H a v→K R' (wj φ H.length p) (H++[o]) a v)
 (hnew:vl o→w.heap.size≤p.1) (hO:uw fo B0 w' R' (wj φ H.length p) (H++[o]) H.length o):Kb fo B0 w' R' (wj φ H.length p) (H++[o]):=by
 have ml:∀ {i:Nat} {x:aa},(H++[o])[i]? =some x→(i < H.length∧H[i]? =some x)∨(i=H.length∧x=o):=by
  intro i x hx
  rcases Nat.lt_trichotomy i H.length with h | h | h
  ·exact .inl ⟨h,by rw[← getElem?_push h (o:=o)];exact hx⟩
  ·subst h;simp at hx;exact .inr ⟨rfl,hx.symm⟩
  ·rw[List.getElem?_eq_none (by simp;omega)] at hx;cases hx
 refine⟨Nat.le_trans hS.low hsz,hsub,fun i x hx=> ?_,fun i j hi hj e=> ?_,fun b o hb=>by rw[hR b o (Nat.lt_of_lt_of_le hb hS.low)];exact hS.ml b o hb,fun k hk=>Nat.lt_of_lt_of_le (hS.slt k hk) hsz,fun i hi hs=> ?_⟩
 ·rcases ml hx with⟨h,hx⟩ | ⟨rfl,rfl⟩
  ·have hO1:=hS.obj i x hx
   refine hO1.Wc (fun hl=>⟨hw _ (hO1.lt hl),fun j hj=>by rw[hR _ _ (hO1.lt hl)];exact hj⟩) (Uc _ _ (by omega)) hk
  ·exact hO
 ·obtain⟨x,hx,hlx⟩:=hi
  obtain⟨y,hy,hly⟩:=hj
  rcases ml hx with⟨h1,hx'⟩ | ⟨e1,e2⟩ <;> rcases ml hy with⟨h2,hy'⟩ | ⟨e3,e4⟩
  ·rw[Uc _ _ (by omega),Uc _ _ (by omega)] at e
   exact hS.inj i j ⟨x,hx',hlx⟩ ⟨y,hy',hly⟩ e
  ·subst e3 e4
   rw[Uc _ _ (by omega),Xa] at e
   have:=(hS.obj i x hx').lt hlx
   have:=hnew hly
   omega
  ·subst e1 e2
   rw[Xa,Uc _ _ (by omega)] at e
   have:=(hS.obj j y hy').lt hly
   have:=hnew hlx
   omega
  ·rw[e1,e3]
 ·obtain⟨x,hx,hlx⟩:=hi
  rcases ml hx with⟨h1,hx'⟩ | ⟨e1,e2⟩
  ·rw[Uc _ _ (by omega)] at hs
   exact hS.free i ⟨x,hx',hlx⟩ hs
  ·subst e1 e2
   rw[Xa] at hs
   have:=hS.slt _ hs
   have:=hnew hlx
   omega
theorem Kb.wj {fo:Nat→FuncId} {B0:se} {w w':World} {R R':Rd} {φ:Pl} {H:List aa} {id:Nat} {o o':aa} {p:Nat×Nat} (hS:Kb fo B0 w R φ H) (ho:H[id]? =some o)
 (hsz:w.heap.size≤w'.heap.size) (hw:∀ b,b < w.heap.size→(vl o→b≠(φ id).1)→w'.heap[b]? =w.heap[b]?)
 (hR:∀ b j,b < w.heap.size→(vl o→b≠(φ id).1)→R' b j=R b j) (hsub:∀ b o v,R' b o=some v→w'.cell? ⟨b,o,none⟩=some v)
 (hk:∀ a v,K R φ H a v→K R' (AM.wj φ id p) (H.set id o') a v)
 (hnew:vl o'→(vl o∧p.1=(φ id).1)∨w.heap.size≤p.1) (hO:uw fo B0 w' R' (AM.wj φ id p) (H.set id o') id o'):Kb fo B0 w' R' (AM.wj φ id p) (H.set id o'):=by
 have hid:=getElem?_lt ho
 have ml:∀ {i:Nat} {x:aa},(H.set id o')[i]? =some x→(i≠id∧H[i]? =some x)∨(i=id∧x=o'):=by
  intro i x hx
  by_cases h:i=id
  ·subst h;rw[List.getElem?_set_self hid] at hx;injection hx with hx;exact .inr ⟨rfl,hx.symm⟩
  ·rw[List.getElem?_set_ne (Ne.symm h)] at hx;exact .inl ⟨h,hx⟩
 have apart:∀ {i:Nat} {x:aa},i≠id→H[i]? =some x→vl x→vl o→(φ i).1≠(φ id).1:=by
  intro i x hne hx hlx hlo e
  exact hne (hS.inj i id ⟨x,hx,hlx⟩ ⟨o,ho,hlo⟩ e)
 refine⟨Nat.le_trans hS.low hsz,hsub,fun i x hx=> ?_,fun i j hi hj e=> ?_,fun b j hb=>by rw[hR b j (Nat.lt_of_lt_of_le hb hS.low) (fun hl e=>by have:=(hS.obj id o ho).base hl;omega)];exact hS.ml b j hb,fun k hk=>Nat.lt_of_lt_of_le (hS.slt k hk) hsz,fun i hi hs=> ?_⟩
 ·rcases ml hx with⟨h,hx⟩ | ⟨rfl,rfl⟩
  ·have hO1:=hS.obj i x hx
   exact hO1.Wc (fun hl=>⟨hw _ (hO1.lt hl) (apart h hx hl),fun j hj=>by rw[hR _ _ (hO1.lt hl) (apart h hx hl)];exact hj⟩) (Uc _ _ h) hk
  ·exact hO
 ·obtain⟨x,hx,hlx⟩:=hi
  obtain⟨y,hy,hly⟩:=hj
  rcases ml hx with⟨h1,hx'⟩ | ⟨e1,e2⟩ <;> rcases ml hy with⟨h2,hy'⟩ | ⟨e3,e4⟩
  ·rw[Uc _ _ h1,Uc _ _ h2] at e
   exact hS.inj i j ⟨x,hx',hlx⟩ ⟨y,hy',hly⟩ e
  ·subst e3 e4
   rw[Uc _ _ h1,Xa] at e
   have hlt:=(hS.obj i x hx').lt hlx
   rcases hnew hly with⟨hlo,hp⟩ | hp
   ·exact absurd (e.trans hp) (apart h1 hx' hlx hlo)
   ·omega
  ·subst e1 e2
   rw[Xa,Uc _ _ h2] at e
   have hlt:=(hS.obj j y hy').lt hly
   rcases hnew hlx with⟨hlo,hp⟩ | hp
   ·exact absurd (e.symm.trans hp) (apart h2 hy' hly hlo)
   ·omega
  ·rw[e1,e3]
 ·obtain⟨x,hx,hlx⟩:=hi
  rcases ml hx with⟨h1,hx'⟩ | ⟨e1,e2⟩
  ·rw[Uc _ _ h1] at hs
   exact hS.free i ⟨x,hx',hlx⟩ hs
  ·subst e1 e2
   rw[Xa] at hs
   rcases hnew hlx with⟨hlo,hp⟩ | hp
   ·rw[hp] at hs;exact hS.free i ⟨o,ho,hlo⟩ hs
   ·have:=hS.slt _ hs
    omega
def vn (fo:Nat→FuncId) (B0:se) (w:World) (R:Rd) (φ:Pl) (H:List aa) (r:Result Value) (v:AV) (H':List aa):Prop:=
 ∃ v' w' R' φ',r= .ok v' w'∧Kb fo B0 w' R' φ' H'∧Yb fo (K R' φ' H') v v'∧(∀ a u,K R φ H a u→K R' φ' H' a u)∧Ve B0 w w'
theorem vn.same {fo:Nat→FuncId} {B0:se} {w:World} {R:Rd} {φ:Pl} {H:List aa} {r:Result Value} {v:AV} (v':Value) (hS:Kb fo B0 w R φ H) (hr:r= .ok v' w) (hv:Yb fo (K R φ H) v v'):
 vn fo B0 w R φ H r v H:=⟨v',w,R,φ,hr,hS,hv,fun _ _ h=>h,Ve.refl _ _⟩
section ops
variable {P:Program} {fo:Nat→FuncId} {B0:se} {w:World} {R:Rd} {φ:Pl} {H:List aa}
theorem Of {w:World} {o:Obj} {b:Nat} (h:b < w.heap.size):(w.heap.push o)[b]? =w.heap[b]? :=by
 rw[Array.getElem?_push,if_neg (by omega)]
theorem Cu (hB:B0≤w.heap.size) (hs:∀ k,B0.S k→k < w.heap.size) (o:Obj):Ve B0 w {w with heap:=w.heap.push o}:=
 .Lr ⟨rfl,rfl,rfl,by simp,fun k hk=>Of hk⟩ hB hs
theorem Kb.Tv (hS:Kb fo B0 w R φ H) {b:Nat} (hb:w.heap.size≤b) (o:Nat):R b o=none:=by
 cases h:R b o with
 |none=>rfl
 |some v=>have:=Ri (hS.sub b o v h);omega
theorem zC {w:World} {ob:Obj} {b o:Nat} (h:b < w.heap.size):World.cell? {w with heap:=w.heap.push ob} ⟨b,o,none⟩=w.cell? ⟨b,o,none⟩:=by
 simp[World.cell?,Of h]
theorem VJ (hS:Kb fo B0 w R φ H) {cells:List AV} {vs:List Value} (hc:La fo (K R φ H) cells vs) (h1:cells.all AV.one=true) (ty:TypeId):
 vn fo B0 w R φ H (.ok (.pointer (some ⟨w.heap.size,0,none⟩)) {w with heap:=w.heap.push (.cells ⟨vs⟩ ty)}) (.ptr H.length 0) (H++[.box cells]):=by
 have hk:=fun a v=>K.push (R:=R) (φ:=φ) (H:=H) (.box cells) (w.heap.size,0) a v
 refine⟨_,_,R,AM.wj φ H.length (w.heap.size,0),rfl,?_,?_,hk,Cu hS.low hS.slt _⟩
 ·refine hS.push (by simp) (fun b hb=>Of hb) (fun _ _ _=>rfl) (fun b o v h=> ?_) hk (fun _=>Nat.le_refl _) ?_
  ·have:=hS.sub b o v h
   rw[zC (Ri this)];exact this
  ·refine⟨by rw[Xa];exact hS.low,by rw[Xa];exact hS.Tv (Nat.le_refl _),h1,⟨vs⟩,?_,hc.mono hk⟩
   rw[Xa]
   exact⟨ty,(0,0),by simp,fun o _ h=>by omega⟩
 ·refine .atom _ _ ⟨by simp,rfl,fun c _=>by rw[Xa]⟩
end ops
end Go.AM
namespace Go.AM
open Go.RowKit
def tB (p:PV):Bool:=(AV.pv p).one
theorem bz {p:PV} (h:tB p=true):p.cells=[p]:=by
 cases p <;> simp_all [tB,AV.one,PV.cells]
theorem Nq (sz:Nat) (ag:Bool) (hsz:ag=false→sz=1):∀ (n:Nat) (ps:List PV),ps.length=n * sz→(∀ p∈ps,tB p=true)→
 flat (chunk sz ag n ps)=ps∧(∀ e∈chunk sz ag n ps,e.cells.length=sz)∧(chunk sz ag n ps).length=n:=by
 intro n
 induction n with
 |zero=>intro ps hl _;simp at hl;subst hl;simp[chunk,flat]
 |succ n ih=>
  intro ps hl hp
  obtain⟨i1,i2,i3⟩:=ih (ps.drop sz) (by simp[hl,Nat.add_mul]) (fun p h=>hp p (List.mem_of_mem_drop h))
  cases ag with
  |true=>
   have hc:(PV.agg (ps.take sz)).cells=ps.take sz:=rfl
   have hlen:(ps.take sz).length=sz:=by rw[List.length_take,hl,Nat.add_mul];omega
   refine⟨?_,?_,?_⟩
   ·simp only[chunk,if_true,flat,hc,i1,List.take_append_drop]
   ·intro e he
    simp only[chunk,if_true,List.mem_cons] at he
    rcases he with rfl | he
    ·rw[hc];exact hlen
    ·exact i2 e he
   ·simp[chunk,i3]
  |false=>
   have h1:=hsz rfl
   subst h1
   cases ps with
   |nil=>simp at hl
   |cons p ps=>
    have hp1:=bz (hp p (by simp))
    refine⟨?_,?_,?_⟩
    ·simp only[List.drop_succ_cons,List.drop_zero] at i1
     simp[chunk,flat,hp1,i1]
    ·intro e he
     simp only[chunk,Bool.false_eq_true,if_false,List.headD_cons,List.mem_cons] at he
     rcases he with rfl | he
     ·rw[hp1];rfl
     ·exact i2 e he
    ·simp only[List.drop_succ_cons,List.drop_zero] at i3
     simp[chunk,i3]
theorem aH {as:List AV} {ps:List PV} (h:Bc as=some ps) (ha:as.all AV.one=true):∀ p∈ps,tB p=true:=by
 have:=Jh h
 subst this
 intro p hp
 have:=List.all_eq_true.1 ha (.pv p) (List.mem_map.2 ⟨p,hp,rfl⟩)
 exact this
def Ul (R:Rd) (nb:Nat) (f:Nat→Option Value):Rd:=fun b o=>if b=nb then f o else R b o
theorem Pv {fo:Nat→FuncId} {B0:se} {w:World} {R:Rd} {φ:Pl} {H:List aa} (hS:Kb fo B0 w R φ H) (f:Nat→Option Value):Sub R (Ul R w.heap.size f):=by
 intro b o v h
 have:=Ri (hS.sub b o v h)
 unfold Ul
 rw[if_neg (by omega)]
 exact h
theorem Ud {w w':World} {b o:Nat} (h:w'.heap[b]? =w.heap[b]?):w'.cell? ⟨b,o,none⟩=w.cell? ⟨b,o,none⟩:=by
 simp[World.cell?,h]
section fresh
variable {fo:Nat→FuncId} {B0:se} {w w':World} {R:Rd} {φ:Pl} {H:List aa}
theorem Iw (hS:Kb fo B0 w R φ H) {es:List PV} {vs rest:List Value} (hl:xd R (flat es) vs) (h1:∀ v∈vs,v.oneCell'=true) {sz cap:Nat} (h0:0 < sz) (c2:∀ e∈es,e.cells.length=sz)
 (hcap:(vs++rest).length=cap * sz) {ty:TypeId} {fz:Nat×Nat} (hf:∀ o,o < (vs++rest).length→¬(fz.1≤o∧o < fz.2))
 (hheap:w'.heap=w.heap.push (.cells ⟨vs++rest⟩ ty fz)) (hos:w'.os=w.os) (htape:w'.tape=w.tape) (hout:w'.output=w.output):
 vn fo B0 w R φ H (.ok (.slice (some ⟨w.heap.size,0,none⟩) es.length cap) w') (.pv (.lit sz es)) H∧
 vn fo B0 w R φ H (.ok (.slice (some ⟨w.heap.size,0,none⟩) es.length cap) w') (.uq H.length false sz es) (H++[.tok sz es.length false]):=by
 have hn:vs.length=es.length * sz:=by rw[hl.length,Il c2]
 have hlow:=hS.low
 have hbw:Ve B0 w w':= .Lr ⟨hos,htape,hout,by simp[hheap],fun k hk=>by rw[hheap];exact Of hk⟩ hlow hS.slt
 have hold':∀ b,b < w.heap.size→w'.heap[b]? =w.heap[b]? :=fun b hb=>by rw[hheap];exact Of hb
 have hnewb:w'.heap[w.heap.size]? =some (.cells ⟨vs++rest⟩ ty fz):=by rw[hheap];simp
 have hncap:es.length≤cap:=by
  have:vs.length≤(vs++rest).length:=by simp
  rw[hn,hcap] at this
  exact Nat.le_of_mul_le_mul_right this h0
 have hblk:Xt w' w.heap.size ⟨vs++rest⟩:=⟨ty,fz,hnewb,fun o ho=>hf o (by simpa using ho)⟩
 have hcell:∀ o,w'.cell? ⟨w.heap.size,o,none⟩=(vs++rest)[o]? :=fun o=>by rw[hblk.cell];simp
 have hszle:w.heap.size≤w'.heap.size:=by simp[hheap]
 constructor
 ·have hsub:=Pv hS (fun o=>(vs++rest)[o]?)
  have hk:=fun a v=>K.sub (φ:=φ) (H:=H) hsub a v
  refine⟨_,w',Ul R w.heap.size (fun o=>(vs++rest)[o]?),φ,rfl,?_,.atom _ _ ?_,hk,hbw⟩
  ·refine⟨Nat.le_trans hS.low hszle,fun b o v h=> ?_,fun id o ho=> ?_,hS.inj,fun b o hb=>by have:=hS.low;unfold Ul;rw[if_neg (by omega)];exact hS.ml b o hb,fun k hk=>Nat.lt_of_lt_of_le (hS.slt k hk) hszle,hS.free⟩
   ·unfold Ul at h
    split at h
    ·rename_i e;subst e;rw[hcell];exact h
    ·have:=hS.sub b o v h
     rw[Ud (hold' b (Ri this))];exact this
   ·have hO:=hS.obj id o ho
    refine hO.Wc (fun hlv=>⟨hold' _ (hO.lt hlv),fun j hj=> ?_⟩) rfl hk
    have:=hO.lt hlv
    unfold Ul
    rw[if_neg (by omega)];exact hj
  ·show Ea _ _ _
   refine Ea.lit sz es w.heap.size 0 cap hncap c2 (we.yk (hl.mono hsub) h1 fun i v hi=> ?_)
   have hlt:=getElem?_lt hi
   simp[Ul,List.getElem?_append_left hlt,hi]
 ·have hsub:=Pv hS (fun o=>if o < es.length * sz then (vs++rest)[o]? else none)
  have hk:=fun a v h=>K.push (.tok sz es.length false) (w.heap.size,cap) a v (K.sub (φ:=φ) (H:=H) hsub a v h)
  have hPR:Ea (Ul R w.heap.size (fun o=>if o < es.length * sz then (vs++rest)[o]? else none)) (.lit sz es) (.slice (some ⟨w.heap.size,0,none⟩) es.length cap):=by
   refine Ea.lit sz es w.heap.size 0 cap hncap c2 (we.yk (hl.mono hsub) h1 fun i v hi=> ?_)
   have hlt:=getElem?_lt hi
   simp[Ul,List.getElem?_append_left hlt,hi];omega
  refine⟨_,w',_,AM.wj φ H.length (w.heap.size,cap),rfl,?_,.atom _ _ ?_,hk,hbw⟩
  ·refine hS.push hszle hold' (fun b o hb=>by unfold Ul;rw[if_neg (by omega)]) (fun b o v h=> ?_) hk (fun _=>Nat.le_refl _) ?_
   ·unfold Ul at h
    split at h
    ·rename_i e;subst e;rw[hcell]
     dsimp only at h
     split at h
     ·exact h
     ·cases h
    ·have:=hS.sub b o v h
     rw[Ud (hold' b (Ri this))];exact this
   ·refine⟨h0,(fun h=>by cases h),fun _=> ?_⟩
    rw[Xa]
    refine⟨hlow,fun o ho=>by simp[Ul];omega,⟨vs++rest⟩,hblk,by simpa using hcap,?_⟩
    simp;omega
  ·refine⟨by simp,(fun h=>by cases h),fun _=>hPR,fun sz' n' nl' h=> ?_⟩
   simp at h
   obtain⟨rfl,rfl,rfl⟩:=h
   refine⟨by omega,fun _=>⟨rfl,rfl,fun _=> ?_⟩⟩
   rw[Xa]
theorem Dx (hS:Kb fo B0 w R φ H) {cells:List AV} {vs rest:List Value} (hc:La fo (K R φ H) cells vs) (h1:cells.all AV.one=true) {sz n cap:Nat} (h0:0 < sz) (hn:vs.length=n * sz)
 (hcap:(vs++rest).length=cap * sz) {ag:Bool} (OO:ag=false→sz=1) {ty:TypeId} {fz:Nat×Nat} (hf:∀ o,o < (vs++rest).length→¬(fz.1≤o∧o < fz.2))
 (hheap:w'.heap=w.heap.push (.cells ⟨vs++rest⟩ ty fz)) (hos:w'.os=w.os) (htape:w'.tape=w.tape) (hout:w'.output=w.output)
 {hold:Yd} {v:AV} {H':List aa} (hfr:fresh H hold sz ag n cells=some (v,H')):
 vn fo B0 w R φ H (.ok (.slice (some ⟨w.heap.size,0,none⟩) n cap) w') v H':=by
 have hlow:=hS.low
 have hbw:Ve B0 w w':= .Lr ⟨hos,htape,hout,by simp[hheap],fun k hk=>by rw[hheap];exact Of hk⟩ hlow hS.slt
 have hold':∀ b,b < w.heap.size→w'.heap[b]? =w.heap[b]? :=fun b hb=>by rw[hheap];exact Of hb
 have hnewb:w'.heap[w.heap.size]? =some (.cells ⟨vs++rest⟩ ty fz):=by rw[hheap];simp
 have hncap:n≤cap:=by
  have:vs.length≤(vs++rest).length:=by simp
  rw[hn,hcap] at this
  exact Nat.le_of_mul_le_mul_right this h0
 have hlc:=hc.length
 have hblk:Xt w' w.heap.size ⟨vs++rest⟩:=⟨ty,fz,hnewb,fun o ho=>hf o (by simpa using ho)⟩
 have hcell:∀ o,w'.cell? ⟨w.heap.size,o,none⟩=(vs++rest)[o]? :=fun o=>by rw[hblk.cell];simp
 have hszle:w.heap.size≤w'.heap.size:=by simp[hheap]
 cases hold with
 |lit=>
  simp only[fresh,Option.map_eq_some_iff,Prod.mk.injEq] at hfr
  obtain⟨ps,hps,rfl,rfl⟩:=hfr
  have hl:=Kh hps hc
  have hpl:=hl.length
  obtain⟨c1,c2,c3⟩:=Nq sz ag OO n ps (by omega) (aH hps h1)
  have:=(Iw (fo:=fo) (B0:=B0) hS (es:=chunk sz ag n ps) (by rw[c1];exact hl) (gl hc h1) h0 c2 hcap hf hheap hos htape hout).1
  rwa [c3] at this
 |uq=>
  simp only[fresh,Option.map_eq_some_iff,Prod.mk.injEq] at hfr
  obtain⟨ps,hps,rfl,rfl⟩:=hfr
  have hl:=Kh hps hc
  have hpl:=hl.length
  obtain⟨c1,c2,c3⟩:=Nq sz ag OO n ps (by omega) (aH hps h1)
  have:=(Iw (fo:=fo) (B0:=B0) hS (es:=chunk sz ag n ps) (by rw[c1];exact hl) (gl hc h1) h0 c2 hcap hf hheap hos htape hout).2
  rwa [c3] at this
 |own=>
  simp only[fresh,Option.some.injEq,Prod.mk.injEq] at hfr
  obtain⟨rfl,rfl⟩:=hfr
  have hk:=fun a v h=>K.push (R:=R) (φ:=φ) (H:=H) (.seq sz ag cells 0 false) (w.heap.size,cap) a v h
  refine⟨_,w',R,AM.wj φ H.length (w.heap.size,cap),rfl,?_,.atom _ _ ?_,hk,hbw⟩
  ·refine hS.push hszle hold' (fun _ _ _=>rfl) (fun b o v h=> ?_) hk (fun _=>Nat.le_refl _) ?_
   ·have:=hS.sub b o v h
    rw[Ud (hold' b (Ri this))];exact this
   ·refine⟨h0,Nat.zero_le _,(fun h=>by cases h),h1,fun _=> ?_⟩
    rw[Xa]
    refine⟨hlow,hS.Tv (Nat.le_refl _),⟨vs++rest⟩,hblk,by simpa using hcap,by simp;omega,?_⟩
    have:(vs++rest).take cells.length=vs:=by rw[← hlc];simp
    simp only[this]
    exact hc.mono hk
  ·refine⟨by simp,rfl,fun sz' ag' c' fl' nl' h=> ?_⟩
   simp at h
   obtain⟨rfl,rfl,rfl,rfl,rfl⟩:=h
   refine⟨by omega,fun _=> ?_⟩
   refine⟨(fun h=>by cases h),fun _=> .inr ⟨w.heap.size,0,cap,rfl,fun _=>by rw[Xa];exact⟨rfl,rfl,rfl⟩,fun ps _=> .inl (by rw[Xa];exact⟨rfl,rfl⟩)⟩⟩
end fresh
end Go.AM
namespace Go.AM
open Go.RowKit
section loads
variable {P:Program} {fo:Nat→FuncId} {B0:se} {w:World} {R:Rd} {φ:Pl} {H:List aa}
theorem Jt {cells:List AV} {vs:List Value} (hc:La fo (K R φ H) cells vs) {t:TypeId} {ag:Bool} {n b off:Nat} (ha:Wi P t=some ag) (hn:ag=true→Oc P t=some n)
 (hr:∀ j v,vs[j]? =some v→w.cell? ⟨b,j,none⟩=some v) {y:AV} (hp:ng ag n cells off=some y):
 ∃ v,(loadVar t ⟨b,off,none⟩).run P w= .ok v w∧Yb fo (K R φ H) y v:=by
 cases ag with
 |true=>
  simp only[ng,if_true] at hp
  split at hp
  ·injection hp with hp
   subst hp
   rename_i hle
   have h2:=(hc.drop off).take n
   have hl:=hc.length
   refine⟨_,gy (vs:=(vs.drop off).take n) w ha (hn rfl) (by simp;omega) (fun j v hj=>hr _ _ ?_),Ro h2⟩
   rw[List.getElem?_take] at hj
   split at hj
   ·rw[List.getElem?_drop] at hj;exact hj
   ·cases hj
  ·cases hp
 |false=>
  simp only[ng,Bool.false_eq_true,if_false] at hp
  obtain⟨v,hv,h2⟩:=hc.get hp
  exact⟨v,Lx w ha (hr _ _ hv),h2⟩
theorem KC (hS:Kb fo B0 w R φ H) {row:List PV} {b o:Nat} (hrow:we R row b o) {t:TypeId} {ag:Bool} {n off:Nat} (ha:Wi P t=some ag) (hn:ag=true→Oc P t=some n)
 {y:PV} (hp:Gk ag n row off=some y):∃ v,(loadVar t ⟨b,o+off,none⟩).run P w= .ok v w∧Ea R y v:=by
 cases ag with
 |true=>
  simp only[Gk,if_true] at hp
  split at hp
  ·injection hp with hp
   subst hp
   rename_i hle
   obtain⟨vs,h2,_,h3⟩:=((hrow.drop off).take n).list
   have hl:=h2.length
   refine⟨_,gy (vs:=vs) w ha (hn rfl) (by rw[hl];simp;omega) (fun j v hj=>hS.sub _ _ _ (h3 j v hj)),.agg _ _ h2⟩
  ·cases hp
 |false=>
  simp only[Gk,Bool.false_eq_true,if_false] at hp
  obtain⟨v,hv,h2⟩:=hrow.get hp
  exact⟨v,Lx w ha (hS.sub _ _ _ hv),h2⟩
theorem mG (hS:Kb fo B0 w R φ H) {x:AV} {vx:Value} (hx:Yb fo (K R φ H) x vx) {t:TypeId} {ag:Bool} {n:Nat} (ha:Wi P t=some ag) (hn:ag=true→Oc P t=some n)
 {y:AV} (hl:na H ag n x=some y):∃ v,(Instr.loadAt t vx).run P w= .ok v w∧Yb fo (K R φ H) y v:=by
 have go:∀ (a:Addr),(Instr.loadAt t (.pointer (some a))).run P w=(loadVar t a).run P w:=by
  intro a;simp[Instr.loadAt,Instr.sureAddr]
 cases hx with
 |atom x vx hx=>
  cases x with
  |pv p=>
   cases p with
   |rp row off=>
    have hx:Ea R (.rp row off) vx:=hx
    simp only[na,Option.map_eq_some_iff] at hl
    obtain⟨q,hq,rfl⟩:=hl
    cases hx with
    |rp _ _ b o hrow=>
     obtain⟨v,h1,h2⟩:=KC hS hrow ha hn hq
     exact⟨v,by rw[go];exact h1,.atom _ _ h2⟩
   |_=>simp[na] at hl
  |ptr id off=>
   simp only[na] at hl
   split at hl
   ·rename_i c hc
    obtain⟨h1,h2,_,arr,h3,h4⟩:=hS.obj id _ hc
    rw[hx.2.2 c hc]
    obtain⟨v,k1,k2⟩:=Jt (w:=w) (b:=(φ id).1) h4 ha hn (fun j v hj=>by rw[h3.cell];simpa using hj) hl
    exact⟨v,by rw[go];exact k1,k2⟩
   ·cases hl
  |ic id m off=>
   simp only[na] at hl
   split at hl
   ·rename_i sz ag' c fl nl hc
    obtain⟨k0,kk⟩:=hx.2.2 _ _ _ _ _ hc
    obtain⟨h0,h1,h2,hao,h3⟩:=hS.obj id _ hc
    split at hl
    ·rename_i hm
     rw[(kk (by omega)).1 hm]
     cases nl with
     |true=>
      have:=h2 rfl
      subst this
      obtain⟨v,k1,k2⟩:=Jt (w:=w) (b:=(φ id).1) (vs:=[]) (fo:=fo) (R:=R) (φ:=φ) (H:=H) .nil ha hn (fun j v hj=>by simp at hj) hl
      exact⟨v,by rw[go];exact k1,k2⟩
     |false=>
      obtain⟨k1,k2,arr,k3,k4,k5,k6⟩:=h3 rfl
      obtain⟨v,q1,q2⟩:=Jt (w:=w) (b:=(φ id).1) k6 ha hn (fun j v hj=>by
       rw[k3.cell]
       rw[List.getElem?_take] at hj
       split at hj
       ·simpa using hj
       ·cases hj) hl
      exact⟨v,by rw[go];exact q1,q2⟩
    ·split at hl
     ·rename_i hm hf
      obtain⟨hf,hm0⟩:=hf
      simp only[Option.bind_eq_some_iff,Option.map_eq_some_iff] at hl
      obtain⟨ps,hps,q,hq,rfl⟩:=hl
      have hnl:nl=false:=by
       cases nl with
       |false=>rfl
       |true=>
        have:=h2 rfl
        subst this
        simp only[List.length_nil] at k0 hm
        omega
      subst hnl
      obtain⟨k1,k2,arr,k3,k4,k5,k6⟩:=h3 rfl
      have hcm:(c.take m).length=ps.length:=by
       have:=Jh hps
       rw[this];simp
      ·rcases (kk hf).2 ps hps hm0 with rfl | ⟨b,o,rfl,hr⟩
       ·have h7:=Kh hps (k6.take m)
        have hA:La fo (K R φ H) (ps.map .pv) ((arr.toList.take c.length).take m):=La.ey h7
        have hq':ng ag n (ps.map .pv) off=some (.pv q):=by
         unfold Gk at hq
         unfold ng
         cases ag with
         |true=>
          simp only[if_true] at hq ⊢
          split at hq
          ·injection hq with hq;subst hq
           rw[if_pos (by simpa using ‹off+n≤ps.length›)]
           simp[Wo,←List.map_drop,←List.map_take,nE]
          ·cases hq
         |false=>
          simp only[Bool.false_eq_true,if_false] at hq ⊢
          simp[hq]
        obtain⟨v,q1,q2⟩:=Jt (w:=w) (b:=(φ id).1) hA ha hn (fun j v hj=>by
         rw[k3.cell]
         rw[List.getElem?_take] at hj
         split at hj
         ·rw[List.getElem?_take] at hj
          split at hj
          ·simpa using hj
          ·cases hj
         ·cases hj) hq'
        exact⟨v,by rw[go];exact q1,q2⟩
       ·obtain⟨v,q1,q2⟩:=KC hS hr ha hn hq
        exact⟨v,by rw[go];exact q1,.atom _ _ q2⟩
     ·cases hl
   ·cases hl
  |_=>simp[na] at hl
 |_=>simp[na] at hl
theorem K.vJ {id:Nat} {c c':List AV} (hc:H[id]? =some (.box c)) (a:AV) (v:Value) (h:K R φ H a v):K R (wj φ id (φ id)) (H.set id (.box c')) a v:=by
 have hφ:wj φ id (φ id)=φ:=by
  funext i
  unfold wj
  split
  ·rename_i e;rw[e]
  ·rfl
 rw[hφ]
 have hid:=getElem?_lt hc
 have ml:∀ {i:Nat} {x:aa},(H.set id (.box c'))[i]? =some x→(i≠id∧H[i]? =some x)∨(i=id∧x= .box c'):=by
  intro i x hx
  by_cases h:i=id
  ·subst h;rw[List.getElem?_set_self hid] at hx;injection hx with hx;exact .inr ⟨rfl,hx.symm⟩
  ·rw[List.getElem?_set_ne (Ne.symm h)] at hx;exact .inl ⟨h,hx⟩
 cases a with
 |pv p=>exact h
 |ptr i off=>
  refine⟨by simpa using h.1,h.2.1,fun c1 h1=> ?_⟩
  rcases ml h1 with⟨_,h2⟩ | ⟨rfl,_⟩
  ·exact h.2.2 _ h2
  ·exact h.2.2 _ hc
 |ic i n off=>
  refine⟨by simpa using h.1,h.2.1,fun sz ag c1 fl nl h1=> ?_⟩
  rcases ml h1 with⟨_,h2⟩ | ⟨rfl,h2⟩
  ·exact h.2.2 _ _ _ _ _ h2
  ·cases h2
 |uq i nl sz es=>
  refine⟨by simpa using h.1,h.2.1,h.2.2.1,fun sz' n nl' h1=> ?_⟩
  rcases ml h1 with⟨_,h2⟩ | ⟨rfl,h2⟩
  ·exact h.2.2.2 _ _ _ h2
  ·cases h2
 |own i len=>
  refine⟨by simpa using h.1,h.2.1,fun sz ag c1 fl nl h1=> ?_⟩
  rcases ml h1 with⟨_,h2⟩ | ⟨rfl,h2⟩
  ·exact h.2.2 _ _ _ _ _ h2
  ·cases h2
 |mp i=>
  refine⟨by simpa using h.1,h.2.1,fun es h1=> ?_⟩
  rcases ml h1 with⟨_,h2⟩ | ⟨rfl,h2⟩
  ·exact h.2.2 _ h2
  ·cases h2
 |mi ix cs=>exact h.elim
 |agg cs=>exact h.elim
 |bc cs=>exact h.elim
 |undef=>exact h.elim
theorem K.mK {id:Nat} {sz:Nat} {ag ag':Bool} {c c':List AV} {fl:Nat} {nl:Bool} (hc:H[id]? =some (.seq sz ag c fl nl)) (hfl:fl≤c.length) (hlen:c'.length=c.length) (a:AV) (v:Value) (h:K R φ H a v):
 K R (wj φ id (φ id)) (H.set id (.seq sz ag' c' c.length nl)) a v:=by
 have hφ:wj φ id (φ id)=φ:=by
  funext i
  unfold wj
  split
  ·rename_i e;rw[e]
  ·rfl
 rw[hφ]
 have hid:=getElem?_lt hc
 have ml:∀ {i:Nat} {x:aa},(H.set id (.seq sz ag' c' c.length nl))[i]? =some x→(i≠id∧H[i]? =some x)∨(i=id∧x= .seq sz ag' c' c.length nl):=by
  intro i x hx
  by_cases h:i=id
  ·subst h;rw[List.getElem?_set_self hid] at hx;injection hx with hx;exact .inr ⟨rfl,hx.symm⟩
  ·rw[List.getElem?_set_ne (Ne.symm h)] at hx;exact .inl ⟨h,hx⟩
 cases a with
 |pv p=>exact h
 |ptr i off=>
  refine⟨by simpa using h.1,h.2.1,fun c1 h1=> ?_⟩
  rcases ml h1 with⟨_,h2⟩ | ⟨rfl,h2⟩
  ·exact h.2.2 _ h2
  ·cases h2
 |ic i n off=>
  refine⟨by simpa using h.1,h.2.1,fun sz1 ag1 c1 fl1 nl1 h1=> ?_⟩
  rcases ml h1 with⟨_,h2⟩ | ⟨rfl,h2⟩
  ·exact h.2.2 _ _ _ _ _ h2
  ·injection h2 with e1 e2 e3 e4 e5
   subst e1 e2 e3 e4 e5
   obtain⟨k0,k⟩:=h.2.2 _ _ _ _ _ hc
   refine⟨by omega,fun e=> ?_⟩
   have hv:=(k (by omega)).1 (by omega)
   exact⟨fun _=>hv,fun _ _ _=> .inl hv⟩
 |uq i nl sz es=>
  refine⟨by simpa using h.1,h.2.1,h.2.2.1,fun sz' n nl' h1=> ?_⟩
  rcases ml h1 with⟨_,h2⟩ | ⟨rfl,h2⟩
  ·exact h.2.2.2 _ _ _ h2
  ·cases h2
 |own i len=>
  refine⟨by simpa using h.1,h.2.1,fun sz1 ag1 c1 fl1 nl1 h1=> ?_⟩
  rcases ml h1 with⟨_,h2⟩ | ⟨rfl,h2⟩
  ·exact h.2.2 _ _ _ _ _ h2
  ·injection h2 with e1 e2 e3 e4 e5
   subst e1 e2 e3 e4 e5
   obtain⟨k0,k⟩:=h.2.2 _ _ _ _ _ hc
   refine⟨by omega,fun hfl1=> ?_⟩
   obtain⟨k1,k2⟩:=k (by omega)
   refine⟨k1,fun hn=> ?_⟩
   rcases k2 hn with⟨q1,q2,q3⟩ | ⟨b,o,cap,q1,q2,q3⟩
   ·refine .inl ⟨q1,fun e=>q2 ?_,q3⟩
    rw[e] at hlen
    exact List.eq_nil_of_length_eq_zero hlen.symm
   ·exact .inr ⟨b,o,cap,q1,fun e=>q2 (by omega),fun ps _=> .inl ⟨(q2 (by omega)).1,(q2 (by omega)).2.1⟩⟩
 |mp i=>
  refine⟨by simpa using h.1,h.2.1,fun es h1=> ?_⟩
  rcases ml h1 with⟨_,h2⟩ | ⟨rfl,h2⟩
  ·exact h.2.2 _ h2
  ·cases h2
 |mi ix cs=>exact h.elim
 |agg cs=>exact h.elim
 |bc cs=>exact h.elim
 |undef=>exact h.elim
theorem Ni {b:Nat} {arr:List Value} {ty:TypeId} {fz:Nat×Nat} {k:Nat} (h:k≠b):(Sm w b arr ty fz).heap[k]? =w.heap[k]? :=by
 simp only[Sm]
 rw[Array.getElem?_setIfInBounds_ne (Ne.symm h)]
theorem Cm {b:Nat} {arr:List Value} {ty:TypeId} {fz:Nat×Nat} (h:b < w.heap.size):(Sm w b arr ty fz).heap[b]? =some (.cells ⟨arr⟩ ty fz):=by
 simp[Sm,h]
theorem nq {b:Nat} {arr:List Value} {ty:TypeId} {fz:Nat×Nat} (h:B0≤b) {arr':Array Value} {ty':TypeId} {fz':Nat×Nat} (h0:w.heap[b]? =some (.cells arr' ty' fz')) (hs:∀ k,B0.S k→k < w.heap.size) (hf:¬B0.S b):Ve B0 w (Sm w b arr ty fz):=
 .bD h0 rfl rfl rfl rfl (by simp[Sm]) h hs hf fun k _ hne=>Ni hne
theorem mz (vs:List AV):∀ (cs:List AV) (o:Nat),cs.all AV.one=true→vs.all AV.one=true→(oa cs o vs).all AV.one=true:=by
 induction vs with
 |nil=>intro cs o h _;exact h
 |cons v vs ih=>
  intro cs o h h2
  simp only[List.all_cons,Bool.and_eq_true] at h2
  refine ih _ _ ?_ h2.2
  rw[List.all_eq_true] at h ⊢
  intro x hx
  rcases List.mem_or_eq_of_mem_set hx with hx | rfl
  ·exact h x hx
  ·exact h2.1
theorem DM (hS:Kb fo B0 w R φ H) {p x:AV} {vp vx:Value} (hp:Yb fo (K R φ H) p vp) (hx:Yb fo (K R φ H) x vx) {t:TypeId} {n:Nat} (hn:Oc P t=some n)
 {H':List aa} (hl:Pa H n p x=some H'):∃ w' φ',(Instr.storeAt t vp vx).run P w= .ok () w'∧Kb fo B0 w' R φ' H'∧(∀ a u,K R φ H a u→K R φ' H' a u)∧Ve B0 w w':=by
 have go:∀ (a:Addr),(Instr.storeAt t (.pointer (some a)) vx).run P w=(storeVar t a vx).run P w:=by
  intro a;simp[Instr.storeAt,Instr.sureAddr]
 unfold Pa at hl
 split at hl
 case isFalse=>cases hl
 rename_i hcond
 obtain⟨hcl,hone⟩:=hcond
 have hcr:=Ct hx hone
 have hcl2:vx.cells.toList.length=n:=by rw[hcr.length];exact hcl
 have hones:=gl hcr hone
 cases hp with
 |atom p vp hp=>
  cases p with
  |ptr id off=>
   dsimp only at hl
   split at hl
   ·rename_i c hc
    split at hl
    ·rename_i hle
     injection hl with hl
     subst hl
     obtain⟨h1,h2,hao,arr,⟨ty,fz,h3,hfz⟩,h4⟩:=hS.obj id _ hc
     have hid:=getElem?_lt hc
     have hlen:=h4.length
     rw[hp.2.2 c hc,go]
     have hst:=su (P:=P) (o:=off) (v:=vx) w hn hcl2 (b:=(φ id).1) (arr:=arr.toList) (ty:=ty) (fz:=fz) h3 (by simpa using hfz) (by rw[hlen];exact hle) hones
     have hlt:(φ id).1 < w.heap.size:=Xt.lt ⟨ty,fz,h3,hfz⟩
     have hk:=fun a v=>K.vJ (R:=R) (φ:=φ) (c':=oa c off x.cells) hc a v
     refine⟨_,wj φ id (φ id),hst,?_,hk,nq h1 h3 hS.slt (hS.free id ⟨_,hc,trivial⟩)⟩
     refine hS.wj (w':=Sm w (φ id).1 (oa arr.toList off vx.cells.toList) ty fz) hc (by simp[Sm]) (fun b hb hne=>Ni (hne trivial)) (fun _ _ _ _=>rfl) (fun b o v hv=> ?_) hk (fun _=> .inl ⟨trivial,rfl⟩) ?_
     ·rw[Ud (Ni (fun e=>by subst e;rw[h2] at hv;cases hv))];exact hS.sub b o v hv
     ·refine⟨by rw[Xa];exact h1,by rw[Xa];exact h2,mz _ _ _ hao hone,⟨oa arr.toList off vx.cells.toList⟩,?_,?_⟩
      ·rw[Xa]
       exact⟨ty,fz,Cm hlt,fun o ho=>hfz o (by simpa[dc] using ho)⟩
      ·exact (h4.mono hk).oa off (hcr.mono hk)
    ·cases hl
   ·cases hl
  |ic id m off=>
   dsimp only at hl
   split at hl
   ·rename_i sz ag c fl nl hc
    split at hl
    ·rename_i hle
     injection hl with hl
     subst hl
     obtain⟨hm,hle⟩:=hle
     obtain⟨h0,h1,h2,hao,h3⟩:=hS.obj id _ hc
     rw[((hp.2.2 _ _ c _ _ hc).2 (by omega)).1 hm,go]
     subst hm
     have hk:=fun a v=>K.mK (R:=R) (φ:=φ) (ag':=ag) (c':=oa c off x.cells) hc h1 (dc _ _ _) a v
     cases nl with
     |true=>
      have hce:=h2 rfl
      subst hce
      have hn0:n=0:=by simp at hle;omega
      subst hn0
      have hvx:vx.cells.toList=[]:=List.eq_nil_of_length_eq_zero hcl2
      have hxc:x.cells=[]:=List.eq_nil_of_length_eq_zero hcl
      refine⟨w,wj φ id (φ id),?_,?_,hk,Ve.refl _ _⟩
      ·have:vx.cells.size=0:=by simpa using hcl2
       simp[storeVar,Ob hn,this,hvx,storeCells]
      ·refine hS.wj (w':=w) hc (Nat.le_refl _) (fun _ _ _=>rfl) (fun _ _ _ _=>rfl) hS.sub hk (fun h=>by cases h) ?_
       exact⟨h0,by simp[dc],(fun _=>by rw[hxc];rfl),(by rw[hxc];rfl),fun h=>by cases h⟩
     |false=>
      obtain⟨k1,k2,arr,⟨ty,fz,k3,hfz⟩,k4,k5,k6⟩:=h3 rfl
      have hst:=su (P:=P) (o:=off) (v:=vx) w hn hcl2 (b:=(φ id).1) (arr:=arr.toList) (ty:=ty) (fz:=fz) k3 (by simpa using hfz) (by simp;omega) hones
      have hlt:(φ id).1 < w.heap.size:=Xt.lt ⟨ty,fz,k3,hfz⟩
      refine⟨_,wj φ id (φ id),hst,?_,hk,nq k1 k3 hS.slt (hS.free id ⟨_,hc,rfl⟩)⟩
      refine hS.wj (w':=Sm w (φ id).1 (oa arr.toList off vx.cells.toList) ty fz) hc (by simp[Sm]) (fun b hb hne=>Ni (hne rfl)) (fun _ _ _ _=>rfl) (fun b o v hv=> ?_) hk (fun _=> .inl ⟨rfl,rfl⟩) ?_
      ·rw[Ud (Ni (fun e=>by subst e;rw[k2] at hv;cases hv))];exact hS.sub b o v hv
      ·refine⟨h0,by rw[dc];exact Nat.le_refl _,(fun h=>by cases h),mz _ _ _ hao hone,fun _=> ?_⟩
       rw[Xa]
       refine⟨k1,k2,⟨oa arr.toList off vx.cells.toList⟩,⟨ty,fz,Cm hlt,fun o ho=>hfz o (by simpa[dc] using ho)⟩,by simpa[dc] using k4,by simpa[dc] using k5,?_⟩
       have hq:=(k6.mono hk).oa off (hcr.mono hk)
       have:(oa arr.toList off vx.cells.toList).take (oa c off x.cells).length=oa (arr.toList.take c.length) off vx.cells.toList:=by
        rw[dc]
        exact zF _ _ _ _ (by omega)
       dsimp only
       rw[this]
       exact hq
    ·cases hl
   ·cases hl
  |_=>simp at hl
 |_=>simp at hl
end loads
end Go.AM
namespace Go.AM
open Go.RowKit
def wd (w:World) (d:Nat):World:={w with drawn:=d}
structure Src (P:Program) (w:World) (vx:Value) (sz n:Nat) (news:List Value):Prop where
 len:∀ d,(Builtin.lenOf vx).run P (wd w d)= .ok n (wd w d)
 cells:∀ d,(Builtin.firstCells sz n vx).run P (wd w d)= .ok ⟨news⟩ (wd w d)
 num:news.length=n * sz
 one:∀ v∈news,v.oneCell'=true
section append
variable {P:Program} {fo:Nat→FuncId} {B0:se} {w:World} {R:Rd} {φ:Pl} {H:List aa}
theorem xP (d b o:Nat):(wd w d).cell? ⟨b,o,none⟩=w.cell? ⟨b,o,none⟩:=rfl
theorem oi {b o:Nat} {vs:List Value} (hc:∀ j v,vs[j]? =some v→w.cell? ⟨b,o+j,none⟩=some v) {n:Nat} (hn:vs.length=n):(loadCells ⟨b,o,none⟩ n).run P w= .ok ⟨vs⟩ w:=by
 have:=run_loadCells_list (P:=P) w ⟨b,o,none⟩ vs (fun j v hv=>by rw[uk];exact hc j v hv)
 rw[hn] at this
 simpa using this
theorem Src.slice {b o n cap sz:Nat} {vs:List Value} (hc:∀ j v,vs[j]? =some v→w.cell? ⟨b,o+j,none⟩=some v) (hn:vs.length=n * sz) (h1:∀ v∈vs,v.oneCell'=true):
 Src P w (.slice (some ⟨b,o,none⟩) n cap) sz n vs:=
 ⟨fun d=>by simp[Builtin.lenOf],fun d=>by
  show (loadCells _ _).run P _=_
  exact oi (w:=wd w d) hc hn,hn,h1⟩
theorem Src.nil (sz:Nat):Src P w (.slice none 0 0) sz 0 []:=
 ⟨fun d=>by simp[Builtin.lenOf],fun d=>by simp[Builtin.firstCells],by simp,by simp⟩
theorem Src.str (s:ByteArray):Src P w (.string s) 1 s.size (s.data.toList.map fun b=> .int .u8 b.toNat):=by
 refine⟨fun d=>by simp[Builtin.lenOf],fun d=> ?_,by rw[List.length_map,Array.length_toList,Nat.mul_one];rfl,?_⟩
 ·simp only[Builtin.firstCells,Sem.run_pure]
  congr 1
  apply Array.ext'
  simp
 ·intro v hv
  simp only[List.mem_map] at hv
  obtain⟨b,_,rfl⟩:=hv
  rfl
theorem run_append_room {t tx ty e:TypeId} {dx:TypeDesc} {b n0 cap sz n:Nat} {arr news:List Value} {et:TypeId} {fz:Nat×Nat} {vx:Value} (hu:P.underlying t=some (.slice e)) (hux:P.underlying tx=some dx)
 (hdx:dx= .slice e∨dx= .string) (hsz:Oc P e=some sz) (hs:Src P w vx sz n news) (hb:w.heap[b]? =some (.cells ⟨arr⟩ et fz)) (hf:∀ j,j < arr.length→¬(fz.1≤j∧j < fz.2)) (harr:arr.length=cap * sz)
 (hroom:n0+n≤cap):(Builtin.append_ #[t,tx] ty #[.slice (some ⟨b,0,none⟩) n0 cap,vx]).run P w= .ok (.slice (some ⟨b,0,none⟩) (n0+n) cap) (Sm w b (oa arr (n0 * sz) news) et fz):=by
 have h1:=hs.len w.drawn
 have h2:=hs.cells w.drawn
 rw[show wd w w.drawn=w from rfl] at h1 h2
 have hle:n0 * sz+0+news.length≤arr.length:=by rw[hs.num,harr];have:=Nat.mul_le_mul_right sz hroom;rw[Nat.add_mul] at this;omega
 have h3:=Xl (P:=P) (b:=b) (n0 * sz) news 0 arr w hb hf hle hs.one
 rcases hdx with rfl | rfl <;>
  simp[Builtin.append_,run_underlying hu,run_underlying hux,Ob hsz,h1,h2,hroom,uk,h3]
theorem run_append_nil {t tx ty e:TypeId} {dx:TypeDesc} {sz:Nat} {vx:Value} (hu:P.underlying t=some (.slice e)) (hux:P.underlying tx=some dx)
 (hdx:dx= .slice e∨dx= .string) (hsz:Oc P e=some sz) (hs:Src P w vx sz 0 []):(Builtin.append_ #[t,tx] ty #[.slice none 0 0,vx]).run P w= .ok (.slice none 0 0) w:=by
 have h1:=hs.len w.drawn
 have h2:=hs.cells w.drawn
 rw[show wd w w.drawn=w from rfl] at h1 h2
 rcases hdx with rfl | rfl <;>
  simp[Builtin.append_,run_underlying hu,run_underlying hux,Ob hsz,h1,h2]
def JJ (P:Program) (e:TypeId) (sz:Nat):Bool:=
 match P.info? e with
 |some i=>match i.zero with
  |some z=>z.cells.size==sz
  |none=>false
 |none=>false
theorem run_append_grow {t tx ty e:TypeId} {dx:TypeDesc} {n0 cap sz n bytes:Nat} {olds news:List Value} {base:Option Addr} {vx:Value} (hu:P.underlying t=some (.slice e)) (hux:P.underlying tx=some dx)
 (hdx:dx= .slice e∨dx= .string) (hsz:Oc P e=some sz) (hby:Sl P e=some bytes) (hb0:0 < bytes) (hz:JJ P e sz=true) (hs:Src P w vx sz n news)
 (ho:∀ d,(Builtin.firstCells sz n0 (.slice base n0 cap)).run P (wd w d)= .ok ⟨olds⟩ (wd w d)) (hroom:cap < n0+n) (iD:(n0+n) * bytes≤140737488355328):
 ∃ newCap rest w',(Builtin.append_ #[t,tx] ty #[.slice base n0 cap,vx]).run P w= .ok (.slice (some ⟨w.heap.size,0,none⟩) (n0+n) newCap) w'∧n0+n≤newCap∧rest.length=(newCap - (n0+n)) * sz∧
  w'.heap=w.heap.push (.cells ⟨olds++news++rest⟩ e)∧w'.os=w.os∧w'.tape=w.tape∧w'.output=w.output:=by
 have h1:=hs.len w.drawn
 rw[show wd w w.drawn=w from rfl] at h1
 unfold JJ at hz
 unfold Sl at hby
 cases hi:P.info? e with
 |none=>simp[hi] at hz
 |some i=>
  simp only[hi] at hz
  cases hzz:i.zero with
  |none=>simp[hzz] at hz
  |some z=>
   simp only[hzz,beq_iff_eq] at hz
   simp only[hi,Option.map_some,Option.some.injEq] at hby
   have hnot:¬cap≥n0+n:=by omega
   have hle:=nextslicecap_le hroom
   have hb1:¬(Builtin.nextslicecap (n0+n) cap * i.bytes > 2 ^ 48):=by
    rw[hby]
    have:=Nat.mul_le_mul_right bytes hle
    rw[Nat.mul_assoc] at this
    omega
   have hb2:¬i.bytes=0:=by omega
   have hcond:¬(((n0+n:Nat):Int) > IntKind.i64.max∧(false=true∨i.bytes=0)):=by
    rintro⟨_,h | h⟩
    ·cases h
    ·exact hb2 h
   have h2:=hs.cells (w.drawn+1)
   have h3:=ho (w.drawn+1)
   have hforced:(Question.appendCap (n0+n) cap e).forced=false:=rfl
   have hzv:∀ d,(zeroValue e).run P (wd w d)= .ok z (wd w d):=fun d=>by simp[zeroValue,run_typeInfo (wd w d) hi,hzz]
   have hti:∀ d,(typeInfo e).run P (wd w d)= .ok i (wd w d):=fun d=>run_typeInfo (wd w d) hi
   have hti0:(typeInfo e).run P w= .ok i w:=run_typeInfo w hi
   have hch:(choose (.appendCap (n0+n) cap e)).run P w= .ok ((Question.appendCap (n0+n) cap e).cut (w.tape w.drawn (.appendCap (n0+n) cap e))) (wd w (w.drawn+1)):=by
    simp[hforced];rfl
   have hcap:n0+n≤(Question.appendCap (n0+n) cap e).cut (w.tape w.drawn (.appendCap (n0+n) cap e)):=by simp only[Question.cut];omega
   generalize (Question.appendCap (n0+n) cap e).cut (w.tape w.drawn (.appendCap (n0+n) cap e))=C at hch hcap
   have hroom':¬n0+n≤cap:=by omega
   have hif:(if ((n0+n:Nat):Int) > IntKind.i64.max∧(false=true∨i.bytes=0) then (runtimePanic (.error "growslice: len out of range"):Sem PUnit) else pure PUnit.unit)=pure PUnit.unit:=if_neg hcond
   refine⟨C,(Builtin.zeroCells z.cells (C - (n0+n))).toList,{wd w (w.drawn+1) with heap:=w.heap.push (.cells ⟨olds++news++(Builtin.zeroCells z.cells (C - (n0+n))).toList⟩ e)},?_,hcap,?_,rfl,rfl,rfl,rfl⟩
   ·have harr:(⟨olds⟩:Array Value)++(⟨news⟩:Array Value)++Builtin.zeroCells z.cells (C - (n0+n))=⟨olds++news++(Builtin.zeroCells z.cells (C - (n0+n))).toList⟩:=by
     apply Array.ext';simp
    have hmax:¬(IntKind.i64.max < ((n0+n:Nat):Int)∧i.bytes=0):=fun h=>hb2 h.2
    rcases hdx with rfl | rfl <;>
     simp only[Builtin.append_,List.getElem?_toArray,List.getElem?_cons_zero,List.getElem?_cons_succ,Sem.run_bind,run_underlying hu,run_underlying hux,Result.andThen_ok,Ob hsz,Sem.run_pure,Bool.false_eq_true,if_false,h1,hroom',Sem.run_ite,
      hti0,hb1,hb2,hch,h2,h3,hti,hzv,run_askRoom,false_or,and_false,gt_iff_lt,newRow,run_newObj,harr,Bool.not_false,if_true] <;> rfl
   ·simp[size_zeroCells,hz]
end append
end Go.AM
set_option linter.unusedSimpArgs false
namespace Go.AM
open Go.RowKit
section tok
variable {P:Program} {fo:Nat→FuncId} {B0:se} {w:World} {R:Rd} {φ:Pl} {H:List aa}
theorem K.IJ {id sz n n':Nat} {nl nl':Bool} {p:Nat×Nat} (hc:H[id]? =some (.tok sz n nl)) (hn:n < n'∨(n=n'∧nl'=nl∧p=φ id)) (a:AV) (v:Value) (h:K R φ H a v):
 K R (wj φ id p) (H.set id (.tok sz n' nl')) a v:=by
 have hid:=getElem?_lt hc
 have ml:∀ {i:Nat} {x:aa},(H.set id (.tok sz n' nl'))[i]? =some x→(i≠id∧H[i]? =some x)∨(i=id∧x= .tok sz n' nl'):=by
  intro i x hx
  by_cases h:i=id
  ·subst h;rw[List.getElem?_set_self hid] at hx;injection hx with hx;exact .inr ⟨rfl,hx.symm⟩
  ·rw[List.getElem?_set_ne (Ne.symm h)] at hx;exact .inl ⟨h,hx⟩
 cases a with
 |pv p=>exact h
 |ptr i off=>
  refine⟨by simpa using h.1,h.2.1,fun c1 h1=> ?_⟩
  rcases ml h1 with⟨hne,h2⟩ | ⟨rfl,h2⟩
  ·rw[Uc _ _ hne];exact h.2.2 _ h2
  ·cases h2
 |ic i n off=>
  refine⟨by simpa using h.1,h.2.1,fun sz ag c1 fl nl h1=> ?_⟩
  rcases ml h1 with⟨hne,h2⟩ | ⟨rfl,h2⟩
  ·rw[Uc _ _ hne];exact h.2.2 _ _ _ _ _ h2
  ·cases h2
 |uq i nl1 sz1 es=>
  refine⟨by simpa using h.1,h.2.1,h.2.2.1,fun sz2 n2 nl2 h1=> ?_⟩
  rcases ml h1 with⟨hne,h2⟩ | ⟨rfl,h2⟩
  ·rw[Uc _ _ hne];exact h.2.2.2 _ _ _ h2
  ·injection h2 with e1 e2 e3
   subst e1 e2 e3
   obtain⟨k1,k2⟩:=h.2.2.2 _ _ _ hc
   rcases hn with hlt | ⟨rfl,rfl,rfl⟩
   ·exact⟨by omega,fun e=>by omega⟩
   ·rw[Xa];exact⟨k1,k2⟩
 |own i len=>
  refine⟨by simpa using h.1,h.2.1,fun sz ag c1 fl nl h1=> ?_⟩
  rcases ml h1 with⟨hne,h2⟩ | ⟨rfl,h2⟩
  ·rw[Uc _ _ hne];exact h.2.2 _ _ _ _ _ h2
  ·cases h2
 |mp i=>
  refine⟨by simpa using h.1,h.2.1,fun es h1=> ?_⟩
  rcases ml h1 with⟨hne,h2⟩ | ⟨rfl,h2⟩
  ·rw[Uc _ _ hne];exact h.2.2 _ h2
  ·cases h2
 |mi ix cs=>exact h.elim
 |agg cs=>exact h.elim
 |bc cs=>exact h.elim
 |undef=>exact h.elim
theorem xd.append {ps qs:List PV} {vs us:List Value} (h:xd R ps vs) (h':xd R qs us):xd R (ps++qs) (vs++us):=by
 induction ps generalizing vs with
 |nil=>cases h;simpa using h'
 |cons p ps ih=>cases h with | cons _ _ v vs h1 h2=>exact .cons _ _ _ _ h1 (ih h2)
theorem Src.none (a:Addr) (sz:Nat):Src P w (.slice (some a) 0 0) sz 0 []:=
 ⟨fun d=>by simp[Builtin.lenOf],fun d=>by
  show (loadCells _ _).run P _=_
  simp[loadCells,loadCellsFrom],by simp,by simp⟩
theorem mJ (hS:Kb fo B0 w R φ H) {sz:Nat} {ys:List PV} {vx:Value} (h:Ea R (.lit sz ys) vx):
 ∃ news,xd R (flat ys) news∧Src P w vx sz ys.length news∧∀ e∈ys,e.cells.length=sz:=by
 cases h with
 |lit _ _ b o cap h1 h2 h3=>
  obtain⟨vs,k1,k2,k3⟩:=h3.list
  exact⟨vs,k1,Src.slice (fun j v hj=>hS.sub _ _ _ (k3 j v hj)) (by rw[k1.length,Il h2]) k2,h2⟩
 |Oy _ a=>exact⟨[],.nil,Src.none a sz,by simp⟩
theorem sE (hS:Kb fo B0 w R φ H) {x:AV} {vx:Value} (hx:Yb fo (K R φ H) x vx) {sz:Nat} {ys:List PV} (h:Oe sz x=some ys):
 ∃ news,xd R (flat ys) news∧Src P w vx sz ys.length news∧∀ e∈ys,e.cells.length=sz:=by
 cases hx with
 |atom x vx hx=>
  cases x with
  |pv p=>
   have hx:Ea R p vx:=hx
   cases p with
   |qa=>
    simp[Oe] at h;subst h
    cases hx
    exact⟨[],.nil,Src.nil sz,by simp⟩
   |lit s ys'=>
    simp only[Oe] at h
    split at h
    ·injection h with h;rename_i e;subst e h;exact mJ hS hx
    ·cases h
   |str s=>
    simp only[Oe] at h
    split at h
    ·injection h with h;rename_i e;subst e h
     cases hx
     refine⟨_,?_,by have:=Src.str (P:=P) (w:=w) s;rwa [show s.size=(s.data.toList.map fun b=>PV.int .u8 b.toNat).length from by rw[List.length_map,Array.length_toList];rfl] at this,by intro e he;simp only[List.mem_map] at he;obtain⟨b,_,rfl⟩:=he;rfl⟩
     clear hS
     induction s.data.toList with
     |nil=>exact .nil
     |cons b l ih=>exact .cons _ _ _ _ (.int _ _) ih
    ·cases h
   |_=>simp[Oe] at h
  |uq id nl s es=>
   simp only[Oe] at h
   split at h
   ·injection h with h;rename_i e;subst e h
    cases nl with
    |true=>
     obtain⟨rfl,rfl⟩:=hx.2.1 rfl
     exact⟨[],.nil,Src.nil _,by simp⟩
    |false=>exact mJ hS (hx.2.2.1 rfl)
   ·cases h
  |_=>simp[Oe] at h
 |_=>simp[Oe] at h
theorem fg {α:Type} (vs:List α):∀ (cs:List α) (o j:Nat),j < o→(oa cs o vs)[j]? =cs[j]? :=by
 induction vs with
 |nil=>intro cs o j _;rfl
 |cons v vs ih=>
  intro cs o j h
  simp only[oa]
  rw[ih _ _ _ (by omega),List.getElem?_set_ne (by omega)]
theorem JC {α:Type} (vs:List α):∀ (cs:List α) (o j:Nat) (v:α),vs[j]? =some v→o+vs.length≤cs.length→(oa cs o vs)[o+j]? =some v:=by
 induction vs with
 |nil=>intro cs o j v h;simp at h
 |cons u vs ih=>
  intro cs o j v h hl
  simp only[List.length_cons] at hl
  cases j with
  |zero=>
   simp at h;subst h
   show (oa (cs.set o u) (o+1) vs)[o]? =some u
   rw[fg _ _ _ _ (by omega),List.getElem?_set_self (by omega)]
  |succ j=>
   simp only[oa]
   rw[show o+(j+1)=o+1+j from by omega]
   exact ih _ _ _ _ (by simpa using h) (by simp;omega)
theorem Ea.GP {sz:Nat} {es:List PV} {b len cap:Nat} (h:Ea R (.lit sz es) (.slice (some ⟨b,0,none⟩) len cap)):len=es.length∧es.length≤cap∧(∀ e∈es,e.cells.length=sz)∧we R (flat es) b 0:=by
 cases h with
 |lit _ _ _ _ _ h1 h2 h3=>exact⟨rfl,h1,h2,h3⟩
 |Oy _ _=>exact⟨rfl,Nat.le_refl _,by simp,.nil _ _⟩
structure nJ (P:Program) (t tx e:TypeId) (sz bytes:Nat):Prop where
 hu:P.underlying t=some (.slice e)
 hx:∃ dx,P.underlying tx=some dx∧(dx= .slice e∨dx= .string)
 Vo:Oc P e=some sz
 iD:Sl P e=some bytes
 pos:0 < bytes
 pos':0 < sz
 hzero:JJ P e sz=true
theorem KM (hS:Kb fo B0 w R φ H) {t tx ty e:TypeId} {sz bytes:Nat} (hA:nJ P t tx e sz bytes) {id n:Nat} {nl nl':Bool} {es ys:List PV} {vs vx:Value} {x:AV}
 (hs:Yb fo (K R φ H) (.uq id nl sz es) vs) (hx:Yb fo (K R φ H) x vx) (hid:H[id]? =some (.tok sz n nl')) (hn:n=es.length) (hy:Oe sz x=some ys) (hroomb:(es.length+ys.length) * bytes≤140737488355328):
 vn fo B0 w R φ H ((Builtin.append_ #[t,tx] ty #[vs,vx]).run P w) (.uq id (nl&&ys.isEmpty) sz (es++ys)) (H.set id (.tok sz (es.length+ys.length) (nl&&ys.isEmpty))):=by
 obtain⟨news,hl,hsrc,hey⟩:=sE (P:=P) hS hx hy
 obtain⟨dx,hux,hdx⟩:=hA.hx
 have hk0:K R φ H (.uq id nl sz es) vs:=by cases hs with | atom _ _ h=>exact h
 obtain⟨hlt,k1,k2,k3⟩:=hk0
 obtain⟨k4,k5⟩:=k3 _ _ _ hid
 obtain⟨e1,e2,k6⟩:=k5 hn
 subst e1 hn
 have hlow:=hS.low
 obtain⟨o1,o2,o3⟩:=hS.obj id _ hid
 have hlenH:∀ o,id < (H.set id o).length:=fun o=>by simpa using hlt
 have grow:∀ (base:Option Addr) (cap:Nat) (olds:List Value),vs= .slice base es.length cap→(∀ d,(Builtin.firstCells sz es.length (.slice base es.length cap)).run P (wd w d)= .ok ⟨olds⟩ (wd w d))→
  xd R (flat es) olds→(∀ e∈es,e.cells.length=sz)→(∀ v∈olds,v.oneCell'=true)→cap < es.length+ys.length→
  vn fo B0 w R φ H ((Builtin.append_ #[t,tx] ty #[vs,vx]).run P w) (.uq id (nl'&&ys.isEmpty) sz (es++ys)) (H.set id (.tok sz (es.length+ys.length) (nl'&&ys.isEmpty))):=by
  intro base cap olds hv hfc hlo hes hone hcap
  subst hv
  obtain⟨C,rest,w',hrun,hC,hrest,hheap,hos,htape,hout⟩:=run_append_grow (ty:=ty) hA.hu hux hdx hA.Vo hA.iD hA.pos hA.hzero hsrc hfc hcap hroomb
  have hne:(nl'&&ys.isEmpty)=false:=by
   cases nl' with
   |false=>rfl
   |true=>
    cases ys with
    |nil=>
     obtain⟨q1,q2⟩:=k1 rfl
     simp[q2] at hcap
    |cons y ys=>rfl
  rw[hne]
  have hys:0 < ys.length:=by
   cases ys with
   |nil=>
    exfalso
    cases nl' with
    |true=>simp at hne
    |false=>
     have h6:=k6 rfl
     injection h6 with h61 h62 h63
     obtain⟨arr,ha⟩:=(o3 rfl).2.2
     have:=ha.2.2
     rw[ha.2.1] at this
     have:=Nat.le_of_mul_le_mul_right this hA.pos'
     simp at hcap;omega
   |cons y ys=>simp
  have hlen1:olds.length=es.length * sz:=by rw[hlo.length,Il hes]
  have hsz2:w.heap.size < w'.heap.size:=by rw[hheap];simp
  have hold':∀ b,b < w.heap.size→w'.heap[b]? =w.heap[b]? :=fun b hb=>by rw[hheap];exact Of hb
  have hblk:Xt w' w.heap.size ⟨olds++news++rest⟩:=⟨e,(0,0),by rw[hheap];simp,fun o _ h=>by omega⟩
  have hcell:∀ o,w'.cell? ⟨w.heap.size,o,none⟩=(olds++news++rest)[o]? :=fun o=>by rw[hblk.cell];simp
  have hsub:=Pv hS (fun o=>if o < (es.length+ys.length) * sz then (olds++news++rest)[o]? else none)
  have hk:=fun a v h=>K.IJ (R:=Ul R w.heap.size (fun o=>if o < (es.length+ys.length) * sz then (olds++news++rest)[o]? else none)) (φ:=φ) (n':=es.length+ys.length) (nl':=false) (p:=(w.heap.size,C)) hid (.inl (by omega)) a v (K.sub hsub a v h)
  have hPR:Ea (Ul R w.heap.size (fun o=>if o < (es.length+ys.length) * sz then (olds++news++rest)[o]? else none)) (.lit sz (es++ys)) (.slice (some ⟨w.heap.size,0,none⟩) (es.length+ys.length) C):=by
   have:=Ea.lit (R:=Ul R w.heap.size (fun o=>if o < (es.length+ys.length) * sz then (olds++news++rest)[o]? else none)) sz (es++ys) w.heap.size 0 C (by simpa using hC)
    (by intro x hx;rcases List.mem_append.1 hx with h | h;exact hes x h;exact hey x h) (by
     rw[Rx]
     refine we.yk ((hlo.append hl).mono hsub) (fun v hv=>by rcases List.mem_append.1 hv with h | h;exact hone v h;exact hsrc.one v h) fun i v hi=> ?_
     have hlt2:=getElem?_lt hi
     simp only[List.length_append,hlen1,hsrc.num] at hlt2
     have:i < (es.length+ys.length) * sz:=by rw[Nat.add_mul];exact hlt2
     simp only[Ul,if_true,Nat.zero_add,this]
     rw[List.getElem?_append_left (by simp[hlen1,hsrc.num];exact hlt2)];exact hi)
   simpa using this
  refine⟨_,w',_,wj φ id (w.heap.size,C),hrun,?_,.atom _ _ ?_,hk,.Lr ⟨hos,htape,hout,by omega,fun k hk=>by rw[hheap];exact Of hk⟩ hlow hS.slt⟩
  ·refine hS.wj hid (by omega) (fun b hb _=>hold' b hb) (fun b o hb _=>by unfold Ul;rw[if_neg (by omega)]) (fun b o v h=> ?_) hk (fun _=> .inr (Nat.le_refl _)) ?_
   ·unfold Ul at h
    split at h
    ·rename_i e;subst e;rw[hcell]
     dsimp only at h
     split at h
     ·exact h
     ·cases h
    ·have:=hS.sub b o v h
     rw[Ud (hold' b (Ri this))];exact this
   ·refine⟨o1,(fun h=>by cases h),fun _=> ?_⟩
    rw[Xa]
    refine⟨hlow,fun o ho=>by simp[Ul];omega,⟨olds++news++rest⟩,hblk,?_,?_⟩
    ·simp only[List.size_toArray,List.length_append,hlen1,hsrc.num,hrest,←Nat.add_mul]
     congr 1;omega
    ·simp only[List.size_toArray,List.length_append,hlen1,hsrc.num,←Nat.add_mul]
     omega
  ·refine⟨hlenH _,(fun h=>by cases h),fun _=>hPR,fun sz' n' nl2 h=> ?_⟩
   rw[List.getElem?_set_self hlt] at h
   injection h with h;injection h with h1 h2 h3
   subst h1 h2 h3
   exact⟨by simp,fun _=>⟨rfl,rfl,fun _=>by rw[Xa]⟩⟩
 cases nl' with
 |true=>
  obtain⟨rfl,rfl⟩:=k1 rfl
  cases ys with
  |nil=>
   have hnews:news=[]:=List.eq_nil_of_length_eq_zero (by rw[hsrc.num];simp)
   subst hnews
   have hrun:=run_append_nil (ty:=ty) hA.hu hux hdx hA.Vo hsrc
   have hset:H.set id (.tok sz 0 true)=H:=by
    apply List.ext_getElem?
    intro i
    by_cases h:i=id
    ·subst h;rw[List.getElem?_set_self hlt];exact hid.symm
    ·rw[List.getElem?_set_ne (Ne.symm h)]
   have:vn fo B0 w R φ H ((Builtin.append_ #[t,tx] ty #[.slice none 0 0,vx]).run P w) (.uq id true sz []) H:=vn.same _ hS hrun hs
   simpa[hset] using this
  |cons y ys=>exact grow none 0 [] rfl (fun d=>by simp[Builtin.firstCells]) .nil (by simp) (by simp) (by simp)
 |false=>
  have hv:=k6 rfl
  obtain⟨q1,q2,arr,⟨et,fz,q3,hfz⟩,q4,q5⟩:=o3 rfl
  have hpr:=k2 rfl
  rw[hv] at hpr
  obtain⟨_,r1,r2,r3⟩:=Ea.GP hpr
  obtain⟨olds,s1,s2,s3⟩:=r3.list
  have hlen1:olds.length=es.length * sz:=by rw[s1.length,Il r2]
  by_cases hroom:es.length+ys.length≤(φ id).2
  ·subst hv
   have hblt:(φ id).1 < w.heap.size:=Xt.lt ⟨et,fz,q3,hfz⟩
   have hrun:=run_append_room (ty:=ty) (n0:=es.length) hA.hu hux hdx hA.Vo hsrc (b:=(φ id).1) (arr:=arr.toList) (et:=et) (fz:=fz) q3 (by simpa using hfz) (by simpa using q4) hroom
   have hq4:arr.toList.length=(φ id).2 * sz:=by simpa using q4
   have hfit:es.length * sz+news.length≤arr.toList.length:=by
    rw[hsrc.num,←Nat.add_mul,hq4];exact Nat.mul_le_mul_right _ hroom
   have hsub:Sub R (fun b o=>if b=(φ id).1∧es.length * sz≤o then (if o < (es.length+ys.length) * sz then (oa arr.toList (es.length * sz) news)[o]? else none) else R b o):=by
    intro b o v h
    dsimp only
    rw[if_neg]
    ·exact h
    ·rintro⟨rfl,ho⟩
     rw[q2 o ho] at h;cases h
   have hnl:(false&&ys.isEmpty)=false:=rfl
   have hk:=fun a v h=>K.IJ (R:=fun b o=>if b=(φ id).1∧es.length * sz≤o then (if o < (es.length+ys.length) * sz then (oa arr.toList (es.length * sz) news)[o]? else none) else R b o) (φ:=φ) (n':=es.length+ys.length) (nl':=false) (p:=φ id) hid
    (by rcases Nat.eq_zero_or_pos ys.length with h0 | h0;exact .inr ⟨by omega,rfl,rfl⟩;exact .inl (by omega)) a v (K.sub hsub a v h)
   refine⟨_,_,_,wj φ id (φ id),hrun,?_,.atom _ _ ?_,hk,nq q1 q3 hS.slt (hS.free id ⟨_,hid,rfl⟩)⟩
   ·refine hS.wj (w':=Sm w (φ id).1 (oa arr.toList (es.length * sz) news) et fz) hid (by simp[Sm]) (fun b hb hne=>Ni (hne rfl)) (fun b j hb hne=>if_neg (fun h=>hne rfl h.1)) (fun b o v h=> ?_) hk (fun _=> .inl ⟨rfl,rfl⟩) ?_
    ·split at h
     ·rename_i hc
      obtain⟨rfl,ho⟩:=hc
      split at h
      ·rw[Xt.cell (arr:=⟨oa arr.toList (es.length * sz) news⟩) ⟨et,fz,Cm hblt,fun o ho=>hfz o (by simpa[dc] using ho)⟩]
       simpa using h
      ·cases h
     ·rename_i hc
      have hs1:=hS.sub b o v h
      by_cases hb:b=(φ id).1
      ·subst hb
       have ho:o < es.length * sz:=by
        rcases Nat.lt_or_ge o (es.length * sz) with h | h
        ·exact h
        ·exact absurd ⟨rfl,h⟩ hc
       rw[Xt.cell (arr:=⟨oa arr.toList (es.length * sz) news⟩) ⟨et,fz,Cm hblt,fun o ho=>hfz o (by simpa[dc] using ho)⟩]
       rw[Xt.cell (arr:=arr) ⟨et,fz,q3,hfz⟩] at hs1
       simp only[List.getElem?_toArray]
       rw[fg _ _ _ _ ho]
       simpa using hs1
      ·rw[Ud (Ni hb)];exact hs1
    ·refine⟨o1,(fun h=>by cases h),fun _=> ?_⟩
     rw[Xa]
     refine⟨q1,fun o ho=> ?_,⟨oa arr.toList (es.length * sz) news⟩,⟨et,fz,Cm hblt,fun o ho=>hfz o (by simpa[dc] using ho)⟩,by simpa[dc] using q4,?_⟩
     ·have:es.length * sz≤o:=by rw[Nat.add_mul] at ho;omega
      exact (if_pos ⟨rfl,this⟩).trans (if_neg (by omega))
     ·show _≤(oa arr.toList (es.length * sz) news).length
      rw[dc,hq4]
      exact Nat.mul_le_mul_right _ hroom
   ·refine⟨hlenH _,(fun h=>by cases h),fun _=> ?_,fun sz' n' nl2 h=> ?_⟩
    ·have:=Ea.lit (R:=fun b o=>if b=(φ id).1∧es.length * sz≤o then (if o < (es.length+ys.length) * sz then (oa arr.toList (es.length * sz) news)[o]? else none) else R b o) sz (es++ys) (φ id).1 0 (φ id).2 (by simpa using hroom)
      (by intro x hx;rcases List.mem_append.1 hx with h | h;exact r2 x h;exact hey x h) (by
       rw[Rx]
       refine we.append (r3.mono hsub) ?_
       rw[Il r2,Nat.zero_add]
       refine we.yk (hl.mono hsub) hsrc.one fun i v hi=> ?_
       have hlt2:=getElem?_lt hi
       rw[hsrc.num] at hlt2
       exact (if_pos ⟨rfl,Nat.le_add_right _ _⟩).trans ((if_pos (by rw[Nat.add_mul];omega)).trans (JC _ _ _ _ _ hi hfit)))
     simpa using this
    ·rw[List.getElem?_set_self hlt] at h
     injection h with h;injection h with h1 h2 h3
     subst h1 h2 h3
     exact⟨by simp,fun _=>⟨rfl,rfl,fun _=>by rw[Xa]⟩⟩
  ·refine grow _ _ olds hv (fun d=> ?_) s1 r2 s2 (by omega)
   show (loadCells _ _).run P _=_
   refine oi (w:=wd w d) (fun j v hj=> ?_) hlen1
   exact hS.sub _ _ _ (s3 j v hj)
end tok
end Go.AM
set_option linter.unusedSimpArgs false
namespace Go.AM
open Go.RowKit
section own
variable {P:Program} {fo:Nat→FuncId} {B0:se} {w:World} {R:Rd} {φ:Pl} {H:List aa}
theorem BO (hS:Kb fo B0 w R φ H) {x:AV} {vx:Value} (hx:Yb fo (K R φ H) x vx) {sz m:Nat} {cs:List AV} (h:Zi H sz x=some (m,cs)):
 ∃ news,La fo (K R φ H) cs news∧Src P w vx sz m news:=by
 have gen:∀ {x:AV},Yb fo (K R φ H) x vx→((Oe sz x).map fun ys=>(ys.length,(flat ys).map AV.pv))=some (m,cs)→∃ news,La fo (K R φ H) cs news∧Src P w vx sz m news:=by
  intro x hx h
  simp only[Option.map_eq_some_iff,Prod.mk.injEq] at h
  obtain⟨ys,hy,rfl,rfl⟩:=h
  obtain⟨news,h1,h2,_⟩:=sE (P:=P) hS hx hy
  exact⟨news,La.ey h1,h2⟩
 cases hx with
 |atom x vx hx=>
  cases x with
  |own id len=>
   simp only[Zi] at h
   split at h
   ·rename_i s ag c fl nl hc
    split at h
    ·rename_i he
     obtain⟨rfl,he⟩:=he
     simp only[Option.some.injEq,Prod.mk.injEq] at h
     obtain⟨rfl,rfl⟩:=h
     obtain⟨h0,h1,h2,hao,h3⟩:=hS.obj id _ hc
     obtain⟨_,hk⟩:=hx.2.2 _ _ _ _ _ hc
     obtain⟨k1,k2⟩:=hk (by omega)
     cases nl with
     |true=>
      have:=h2 rfl
      subst this
      simp only[List.length_nil] at he
      have hl0:len=0:=by
       rcases Nat.mul_eq_zero.1 he with h | h
       ·exact h
       ·omega
      subst hl0
      rw[k1 rfl]
      exact⟨[],.nil,Src.nil _⟩
     |false=>
      obtain⟨b,o,cap,q1,q2,q3⟩:=(k2 rfl).resolve_left (by
       rintro⟨rfl,hne,_⟩
       exact hne (List.eq_nil_of_length_eq_zero (by omega)))
      obtain⟨rfl,rfl,rfl⟩:=q2 he
      obtain⟨p1,p2,arr,p3,p4,p5,p6⟩:=h3 rfl
      subst q1
      refine⟨_,p6,Src.slice (fun j v hj=> ?_) (by rw[p6.length];omega) (gl p6 hao)⟩
      rw[Nat.zero_add,p3.cell]
      rw[List.getElem?_take] at hj
      split at hj
      ·simpa using hj
      ·cases hj
    ·cases h
   ·cases h
  |_=>exact gen (.atom _ _ hx) (by simpa[Zi] using h)
 |mi ix cs vs h1=>exact gen (.mi _ _ _ h1) (by simpa[Zi] using h)
 |agg cs vs h1=>exact gen (.agg _ _ h1) (by simpa[Zi] using h)
 |bc cs vs h1=>exact gen (.bc _ _ h1) (by simpa[Zi] using h)
 |undef v=>exact gen (.undef _) (by simpa[Zi] using h)
theorem K.KJ {R':Rd} {id sz:Nat} {ag ag':Bool} {c cs:List AV} {fl:Nat} {nl nl':Bool} {p:Nat×Nat} (hsub:Sub R R') (h0:0 < sz) (hc:H[id]? =some (.seq sz ag c fl nl)) (hnl:nl=true→c=[])
 (hp:(nl'=nl∧p=φ id)∨(cs≠[]∧nl'=false∧(nl=false→∀ k ps,Bc (c.take k)=some ps→we R' ps (φ id).1 0))) (hcs:cs=[]→nl'=nl∧p=φ id) (a:AV) (v:Value) (h:K R φ H a v):
 K R' (wj φ id p) (H.set id (.seq sz ag' (c++cs) fl nl')) a v:=by
 have hid:=getElem?_lt hc
 have h:=K.sub hsub a v h
 have ml:∀ {i:Nat} {x:aa},(H.set id (.seq sz ag' (c++cs) fl nl'))[i]? =some x→(i≠id∧H[i]? =some x)∨(i=id∧x= .seq sz ag' (c++cs) fl nl'):=by
  intro i x hx
  by_cases h:i=id
  ·subst h;rw[List.getElem?_set_self hid] at hx;injection hx with hx;exact .inr ⟨rfl,hx.symm⟩
  ·rw[List.getElem?_set_ne (Ne.symm h)] at hx;exact .inl ⟨h,hx⟩
 cases a with
 |pv p=>exact h
 |ptr i off=>
  refine⟨by simpa using h.1,h.2.1,fun c1 h1=> ?_⟩
  rcases ml h1 with⟨hne,h2⟩ | ⟨rfl,h2⟩
  ·rw[Uc _ _ hne];exact h.2.2 _ h2
  ·cases h2
 |ic i n off=>
  refine⟨by simpa using h.1,h.2.1,fun sz1 ag1 c1 fl1 nl1 h1=> ?_⟩
  rcases ml h1 with⟨hne,h2⟩ | ⟨rfl,h2⟩
  ·rw[Uc _ _ hne];exact h.2.2 _ _ _ _ _ h2
  ·injection h2 with e1 e2 e3 e4 e5
   subst e1 e2 e3 e4 e5
   obtain⟨k0,k⟩:=h.2.2 _ _ _ _ _ hc
   refine⟨by simp;omega,fun hf=> ?_⟩
   obtain⟨k1,k2⟩:=k hf
   by_cases hcs0:cs=[]
   ·obtain⟨rfl,rfl⟩:=hcs hcs0
    subst hcs0
    rw[Xa]
    simpa using ⟨k1,k2⟩
   ·have hlen:0 < cs.length:=List.length_pos_iff.2 hcs0
    refine⟨fun e=>by simp at e;omega,fun ps hps hn0=> ?_⟩
    have htake:(c++cs).take n=c.take n:=by
     rw[List.take_append,show n - c.length=0 from by omega];simp
    rw[htake] at hps
    rcases hp with⟨_,rfl⟩ | ⟨_,_,hold⟩
    ·rw[Xa];exact k2 ps hps hn0
    ·have hnl0:nl=false:=by
      cases nl with
      |false=>rfl
      |true=>
       have:=hnl rfl
       subst this
       simp at k0;omega
     rcases k2 ps hps hn0 with rfl | hr
     ·exact .inr ⟨_,0,by rw[Nat.zero_add],hold hnl0 _ ps hps⟩
     ·exact .inr hr
 |uq i nl sz es=>
  refine⟨by simpa using h.1,h.2.1,h.2.2.1,fun sz' n nl' h1=> ?_⟩
  rcases ml h1 with⟨hne,h2⟩ | ⟨rfl,h2⟩
  ·rw[Uc _ _ hne];exact h.2.2.2 _ _ _ h2
  ·cases h2
 |own i len=>
  refine⟨by simpa using h.1,h.2.1,fun sz1 ag1 c1 fl1 nl1 h1=> ?_⟩
  rcases ml h1 with⟨hne,h2⟩ | ⟨rfl,h2⟩
  ·rw[Uc _ _ hne];exact h.2.2 _ _ _ _ _ h2
  ·injection h2 with e1 e2 e3 e4 e5
   subst e1 e2 e3 e4 e5
   obtain⟨k0,k⟩:=h.2.2 _ _ _ _ _ hc
   refine⟨by simp;omega,fun hf=> ?_⟩
   obtain⟨k1,k2⟩:=k hf
   by_cases hcs0:cs=[]
   ·obtain⟨rfl,rfl⟩:=hcs hcs0
    subst hcs0
    rw[Xa]
    simpa using ⟨k1,k2⟩
   ·have hlen:0 < cs.length:=List.length_pos_iff.2 hcs0
    have htake:(c++cs).take (len * sz1)=c.take (len * sz1):=by
     rw[List.take_append,show len * sz1 - c.length=0 from by omega];simp
    cases nl with
    |true=>
     have hc0:=hnl rfl
     subst hc0
     simp only[List.length_nil] at k0
     have hl0:len=0:=by
      rcases Nat.mul_eq_zero.1 (Nat.le_zero.1 k0) with h | h
      ·exact h
      ·omega
     exact⟨fun _=>k1 rfl,fun _=> .inl ⟨hl0,by simpa using hcs0,k1 rfl⟩⟩
    |false=>
     have hnl':nl1=false:=by
      rcases hp with⟨e,_⟩ | ⟨_,e,_⟩ <;> exact e
     subst hnl'
     refine⟨(fun h=>by cases h),fun _=> ?_⟩
     rcases k2 rfl with⟨q1,q2,q3⟩ | ⟨b,o,cap,q1,q2,q3⟩
     ·exact .inl ⟨q1,by simp[q2],q3⟩
     ·refine .inr ⟨b,o,cap,q1,fun e=>by simp at e;omega,fun ps hps=> ?_⟩
      rw[htake] at hps
      rcases hp with⟨_,rfl⟩ | ⟨_,_,hold⟩
      ·rw[Xa];exact q3 ps hps
      ·rcases q3 ps hps with⟨rfl,rfl⟩ | hr
       ·exact .inr (hold rfl _ ps hps)
       ·exact .inr hr
 |mp i=>
  refine⟨by simpa using h.1,h.2.1,fun es h1=> ?_⟩
  rcases ml h1 with⟨hne,h2⟩ | ⟨rfl,h2⟩
  ·rw[Uc _ _ hne];exact h.2.2 _ h2
  ·cases h2
 |mi ix cs=>exact h.elim
 |agg cs=>exact h.elim
 |bc cs=>exact h.elim
 |undef=>exact h.elim
theorem nI (hS:Kb fo B0 w R φ H) {t tx ty e:TypeId} {sz bytes:Nat} (hA:nJ P t tx e sz bytes) {id len m fl:Nat} {ag' nl:Bool} {cells cs:List AV} {vs vx:Value} {x:AV}
 (hs:Yb fo (K R φ H) (.own id len) vs) (hx:Yb fo (K R φ H) x vx) (hid:H[id]? =some (.seq sz ag' cells fl nl)) (hn:len * sz=cells.length) (hy:Zi H sz x=some (m,cs)) (hcs1:cs.all AV.one=true)
 (hroomb:(len+m) * bytes≤140737488355328):
 vn fo B0 w R φ H ((Builtin.append_ #[t,tx] ty #[vs,vx]).run P w) (.own id (len+m)) (H.set id (.seq sz ag' (cells++cs) fl (nl&&(m==0)))):=by
 obtain⟨news,hl,hsrc⟩:=BO (P:=P) hS hx hy
 obtain⟨dx,hux,hdx⟩:=hA.hx
 have hk0:K R φ H (.own id len) vs:=by cases hs with | atom _ _ h=>exact h
 obtain⟨hlt,k1,k2⟩:=hk0
 obtain⟨_,k3⟩:=k2 _ _ _ _ _ hid
 obtain⟨o1,o2,o3,o4,o5⟩:=hS.obj id _ hid
 obtain⟨k4,k5⟩:=k3 (by omega)
 have hlow:=hS.low
 have hlcs:cs.length=m * sz:=by rw[← hl.length,hsrc.num]
 have hall:(cells++cs).all AV.one=true:=by simp only[List.all_append,Bool.and_eq_true];exact⟨o4,hcs1⟩
 have hlenH:∀ o,id < (H.set id o).length:=fun o=>by simpa using hlt
 have hm0:cs=[]→m=0:=fun h=>by
  subst h
  rcases Nat.mul_eq_zero.1 hlcs.symm with h | h
  ·exact h
  ·omega
 have hcur:∀ {R':Rd} {φ':Pl} {nl':Bool} {v':Value},(nl'=true→v'= .slice none 0 0)→(nl'=false→v'= .slice (some ⟨(φ' id).1,0,none⟩) (len+m) (φ' id).2)→v'.oneCell'=true→
  K R' φ' (H.set id (.seq sz ag' (cells++cs) fl nl')) (.own id (len+m)) v':=by
  intro R' φ' nl' v' hv1 hv2 hv3
  refine⟨hlenH _,hv3,fun sz1 ag1 c1 fl1 nl1 h=> ?_⟩
  rw[List.getElem?_set_self hlt] at h
  injection h with h;injection h with h1 h2 h3 h4 h5
  subst h1 h2 h3 h4 h5
  refine⟨by simp[hlcs,Nat.add_mul];omega,fun _=>⟨hv1,fun e=> .inr ⟨_,_,_,hv2 e,fun _=>⟨rfl,rfl,rfl⟩,fun ps _=> .inl ⟨rfl,rfl⟩⟩⟩⟩
 have grow:∀ (base:Option Addr) (cap:Nat) (olds:List Value),vs= .slice base len cap→(∀ d,(Builtin.firstCells sz len (.slice base len cap)).run P (wd w d)= .ok ⟨olds⟩ (wd w d))→
  La fo (K R φ H) cells olds→(nl=false→∀ i v,olds[i]? =some v→w.cell? ⟨(φ id).1,i,none⟩=some v)→cap < len+m→(nl&&(m==0))=false→
  vn fo B0 w R φ H ((Builtin.append_ #[t,tx] ty #[vs,vx]).run P w) (.own id (len+m)) (H.set id (.seq sz ag' (cells++cs) fl (nl&&(m==0)))):=by
  intro base cap olds hv hfc hlo hoc hcap hne
  subst hv
  rw[hne]
  obtain⟨C,rest,w',hrun,hC,hrest,hheap,hos,htape,hout⟩:=run_append_grow (ty:=ty) hA.hu hux hdx hA.Vo hA.iD hA.pos hA.hzero hsrc hfc hcap hroomb
  have hsz2:w.heap.size < w'.heap.size:=by rw[hheap];simp
  have hold':∀ b,b < w.heap.size→w'.heap[b]? =w.heap[b]? :=fun b hb=>by rw[hheap];exact Of hb
  have hblk:Xt w' w.heap.size ⟨olds++news++rest⟩:=⟨e,(0,0),by rw[hheap];simp,fun o _ h=>by omega⟩
  have hlo1:=hlo.length
  have hsub:Sub R (fun b o=>if nl=false∧b=(φ id).1 then w.cell? ⟨b,o,none⟩ else R b o):=by
   intro b o v h
   dsimp only
   split
   ·exact hS.sub b o v h
   ·exact h
  have hnlx:cs≠[]:=by
   intro h
   have hm:=hm0 h
   subst hm
   cases nl with
   |true=>simp at hne
   |false=>
    rcases k5 rfl with⟨q1,q2,q3⟩ | ⟨b,o,cap',q1,q2,q3⟩
    ·subst q1
     exact q2 (List.eq_nil_of_length_eq_zero (by omega))
    ·injection q1 with q11 q12 q13
     obtain⟨_,_,q4⟩:=q2 hn
     subst q13 q4
     obtain⟨_,_,arr,_,a4,a5,_⟩:=o5 rfl
     rw[a4,←hn] at a5
     have:=Nat.le_of_mul_le_mul_right a5 o1
     omega
  have hk:=fun a v h=>K.KJ (R:=R) (φ:=φ) (R':=fun b o=>if nl=false∧b=(φ id).1 then w.cell? ⟨b,o,none⟩ else R b o) (ag':=ag') (cs:=cs) (nl':=false) (p:=(w.heap.size,C)) hsub o1 hid o3
   (.inr ⟨hnlx,rfl,fun hnl k ps hps=>by
    have h1:=hlo.take k
    refine we.yk ((Kh hps h1).mono hsub) (gl h1 ?_) fun i v hi=> ?_
    ·rw[List.all_eq_true] at o4 ⊢
     exact fun x hx=>o4 x (List.mem_of_mem_take hx)
    ·refine (if_pos ⟨hnl,rfl⟩).trans ?_
     rw[Nat.zero_add]
     refine hoc hnl i v ?_
     rw[List.getElem?_take] at hi
     split at hi
     ·exact hi
     ·cases hi⟩) (fun h=>absurd h hnlx) a v h
  refine⟨_,w',_,wj φ id (w.heap.size,C),hrun,?_,.atom _ _ (hcur (fun h=>by cases h) (fun _=>by rw[Xa]) rfl),hk,.Lr ⟨hos,htape,hout,by omega,fun k hk=>by rw[hheap];exact Of hk⟩ hlow hS.slt⟩
  refine hS.wj hid (by omega) (fun b hb _=>hold' b hb) (fun b o hb hne2=>if_neg (fun h=>hne2 h.1 h.2)) (fun b o v h=> ?_) hk (fun _=> .inr (Nat.le_refl _)) ?_
  ·split at h
   ·rw[Ud (hold' b (Ri h))];exact h
   ·have:=hS.sub b o v h
    rw[Ud (hold' b (Ri this))];exact this
  ·refine⟨o1,by simp;omega,(fun h=>by cases h),hall,fun _=> ?_⟩
   rw[Xa]
   refine⟨hlow,fun o=> ?_,⟨olds++news++rest⟩,hblk,?_,?_,?_⟩
   ·refine (if_neg ?_).trans (hS.Tv (Nat.le_refl _) o)
    rintro⟨hnl,he⟩
    obtain⟨_,_,arr,a3,_⟩:=o5 hnl
    have:=a3.lt
    omega
   ·show (olds++news++rest).length=C * sz
    simp only[List.length_append,hlo1,←hn,hsrc.num,hrest,←Nat.add_mul]
    congr 1;omega
   ·show _≤(olds++news++rest).length
    simp only[List.length_append,hlo1,hsrc.num,hlcs]
    omega
   ·have:(olds++news++rest).take (cells++cs).length=olds++news:=by
     rw[List.take_append_of_le_length (by simp[hlo1,hsrc.num,hlcs]),List.take_of_length_le (by simp[hlo1,hsrc.num,hlcs])]
    simp only[this]
    exact (hlo.append hl).mono hk
 cases nl with
 |true=>
  have hc0:=o3 rfl
  subst hc0
  have hv:=k4 rfl
  have hl0:len=0:=by
   rcases Nat.mul_eq_zero.1 hn with h | h
   ·exact h
   ·omega
  subst hl0
  by_cases hm:m=0
  ·subst hm
   have hnews:news=[]:=List.eq_nil_of_length_eq_zero (by rw[hsrc.num];simp)
   have hcs0:cs=[]:=List.eq_nil_of_length_eq_zero (by omega)
   subst hnews hcs0
   subst hv
   have hrun:=run_append_nil (ty:=ty) hA.hu hux hdx hA.Vo hsrc
   have hset:H.set id (.seq sz ag' ([]++[]) fl (true&&(0==0)))=H:=by
    apply List.ext_getElem?
    intro i
    by_cases h:i=id
    ·subst h;rw[List.getElem?_set_self hlt];exact hid.symm
    ·rw[List.getElem?_set_ne (Ne.symm h)]
   rw[hset]
   exact vn.same _ hS hrun hs
  ·have hmb:(m==0)=false:=by simpa using hm
   exact grow none 0 [] hv (fun d=>by simp[Builtin.firstCells]) .nil (fun h=>by cases h) (by omega) (by simp[hmb])
 |false=>
  obtain⟨q1,q2,arr,⟨et,fz,q3,hfz⟩,q4,q5,q6⟩:=o5 rfl
  rcases k5 rfl with⟨r1,r2,r3⟩ | ⟨b,o,cap,r1,r2,r3⟩
  ·subst r1
   exact absurd (List.eq_nil_of_length_eq_zero (by omega)) r2
  obtain⟨rfl,rfl,rfl⟩:=r2 hn
  have hq4:arr.toList.length=(φ id).2 * sz:=by simpa using q4
  by_cases hroom:len+m≤(φ id).2
  ·subst r1
   have hblt:(φ id).1 < w.heap.size:=Xt.lt ⟨et,fz,q3,hfz⟩
   have hrun:=run_append_room (ty:=ty) (n0:=len) hA.hu hux hdx hA.Vo hsrc (b:=(φ id).1) (arr:=arr.toList) (et:=et) (fz:=fz) q3 (by simpa using hfz) hq4 hroom
   have hfit:len * sz+news.length≤arr.toList.length:=by
    rw[hsrc.num,←Nat.add_mul,hq4];exact Nat.mul_le_mul_right _ hroom
   have hk:=fun a v h=>K.KJ (R:=R) (φ:=φ) (ag':=ag') (cs:=cs) (nl':=false) (p:=φ id) (Sub.refl R) o1 hid o3 (.inl ⟨rfl,rfl⟩) (fun _=>⟨rfl,rfl⟩) a v h
   refine⟨_,_,R,wj φ id (φ id),hrun,?_,.atom _ _ (hcur (fun h=>by cases h) (fun _=>by rw[Xa]) rfl),hk,nq q1 q3 hS.slt (hS.free id ⟨_,hid,rfl⟩)⟩
   refine hS.wj (w':=Sm w (φ id).1 (oa arr.toList (len * sz) news) et fz) hid (by simp[Sm]) (fun b hb hne=>Ni (hne rfl)) (fun _ _ _ _=>rfl) (fun b o v hv=> ?_) hk (fun _=> .inl ⟨rfl,rfl⟩) ?_
   ·rw[Ud (Ni (fun e=>by subst e;rw[q2] at hv;cases hv))];exact hS.sub b o v hv
   ·refine⟨o1,by simp;omega,(fun h=>by cases h),hall,fun _=> ?_⟩
    rw[Xa]
    refine⟨q1,q2,⟨oa arr.toList (len * sz) news⟩,⟨et,fz,Cm hblt,fun o ho=>hfz o (by simpa[dc] using ho)⟩,by simpa[dc] using q4,?_,?_⟩
    ·show _≤(oa arr.toList (len * sz) news).length
     rw[dc]
     simp only[List.length_append,hlcs,←hn]
     rw[hsrc.num] at hfit
     exact hfit
    ·have hfit2:=hfit
     rw[hsrc.num] at hfit2
     have h1:(cells++cs).length=(len+m) * sz:=by simp[hlcs,←hn,Nat.add_mul]
     have:(oa arr.toList (len * sz) news).take (cells++cs).length=arr.toList.take cells.length++news:=by
      apply List.ext_getElem?
      intro i
      rw[List.getElem?_take]
      have hlt1:(arr.toList.take cells.length).length=len * sz:=by rw[List.length_take,←hn];omega
      split
      ·rename_i hi
       rw[h1] at hi
       by_cases hi2:i < len * sz
       ·rw[fg _ _ _ _ hi2,List.getElem?_append_left (by omega),List.getElem?_take,if_pos (by omega)]
       ·have hi3:i - len * sz < news.length:=by rw[hsrc.num];rw[Nat.add_mul] at hi;omega
        have:=JC news arr.toList (len * sz) (i - len * sz) news[i - len * sz] (List.getElem?_eq_getElem hi3) hfit
        rw[show len * sz+(i - len * sz)=i from by omega] at this
        rw[this,List.getElem?_append_right (by omega),hlt1,List.getElem?_eq_getElem hi3]
      ·rename_i hi
       rw[h1] at hi
       rw[List.getElem?_eq_none]
       rw[List.length_append,hlt1,hsrc.num,←Nat.add_mul];omega
     simp only[this]
     exact (q6.append hl).mono hk
  ·refine grow _ _ (arr.toList.take cells.length) r1 (fun d=> ?_) q6 (fun _ i v hi=> ?_) (by omega) rfl
   ·show (loadCells _ _).run P _=_
    refine oi (w:=wd w d) (fun j v hj=> ?_) (by rw[List.length_take,hn];simp;omega)
    rw[Nat.zero_add,xP,Xt.cell (arr:=arr) ⟨et,fz,q3,hfz⟩]
    rw[List.getElem?_take] at hj
    split at hj
    ·simpa using hj
    ·cases hj
   ·rw[Xt.cell (arr:=arr) ⟨et,fz,q3,hfz⟩]
    rw[List.getElem?_take] at hi
    split at hi
    ·simpa using hi
    ·cases hi
end own
end Go.AM
set_option linter.unusedSimpArgs false
set_option linter.unusedVariables false
namespace Go.AM
open Go.RowKit
def wv:Value→PV→Bool
 | .int k n,.int k' n'=>decide (k=k')&&decide (n=n')
 | .bool a,.bool b=>a==b
 | .string s,.str t=>s.data.toList==t.data.toList
 | .pointer none,.yd=>true
 | .slice none 0 0,.qa=>true
 | .map none,.pq=>true
 | .nilFunc,.Vp=>true
 | .nilIface,.Mv=>true
 | .tuple vs,.bc []=>vs.size==0
 |_,_=>false
theorem Cs {R:Rd} {v:Value} {p:PV} (h:wv v p=true):Ea R p v:=by
 unfold wv at h
 split at h
 ·simp only[Bool.and_eq_true,decide_eq_true_eq] at h
  obtain⟨rfl,rfl⟩:=h
  exact .int _ _
 ·simp at h;subst h;exact .bool _
 ·rename_i s t
  have:s=t:=by
   cases s;cases t
   simp at h;subst h;rfl
  subst this;exact .str _
 ·exact .yd
 ·exact .qa
 ·exact .pq
 ·exact .Vp
 ·exact .Mv
 ·rename_i vs
  have:vs= #[]:=by simpa using h
  subst this
  exact .bc [] [] .nil
 ·cases h
def Km:List Value→List PV→Bool
 | [],[]=>true
 |v::vs,p::ps=>wv v p&&tB p&&Km vs ps
 |_,_=>false
theorem Ii {R:Rd}:∀ {vs:List Value} {ps:List PV},Km vs ps=true→xd R ps vs∧(ps.map AV.pv).all AV.one=true
 | [],[],_=>⟨.nil,rfl⟩
 |v::vs,p::ps,h=>by
  simp only[Km,Bool.and_eq_true] at h
  obtain⟨h1,h2⟩:=Ii (R:=R) h.2
  exact⟨.cons _ _ _ _ (Cs h.1.1) h1,by simp only[List.map_cons,List.all_cons,h2,Bool.and_true];exact h.1.2⟩
 | [],_::_,h=>by simp[Km] at h
 |_::_,[],h=>by simp[Km] at h
def Jm (P:Program) (t:TypeId) (zero:List PV):Bool:=
 match P.info? t with
 |some i=>match i.zero with
  |some z=>Km z.cells.toList zero
  |none=>false
 |none=>false
def uj (fo:Nat→FuncId):Operand→AO→Bool
 | .tmp n,.t m=>n==m
 | .const v,.c p=>wv v p
 | .func f,.f ix=>fo ix==f
 |_,_=>false
section ops
variable {P:Program} {fo:Nat→FuncId} {B0:se} {w:World} {R:Rd} {φ:Pl} {H:List aa} {e:Tr} {a:Act}
theorem pb (hE:og fo (K R φ H) e a) {x:Operand} {y:AO} (h:uj fo x y=true):Yb fo (K R φ H) (y.ev e) (a.eval x):=by
 unfold uj at h
 split at h
 ·simp at h;subst h;exact hE _
 ·exact .atom _ _ (Cs h)
 ·simp at h;subst h;exact .mi _ [] [] .nil
 ·cases h
def Hy (fo:Nat→FuncId):List Operand→List AO→Bool
 | [],[]=>true
 |x::xs,y::ys=>uj fo x y&&Hy fo xs ys
 |_,_=>false
theorem zn (hE:og fo (K R φ H) e a):∀ {xs:List Operand} {ys:List AO},Hy fo xs ys=true→La fo (K R φ H) (ys.map (·.ev e)) (xs.map a.eval)
 | [],[],_=> .nil
 |x::xs,y::ys,h=>by
  simp only[Hy,Bool.and_eq_true] at h
  exact .cons _ _ _ _ (pb hE h.1) (zn hE h.2)
 | [],_::_,h=>by simp[Hy] at h
 |_::_,[],h=>by simp[Hy] at h
abbrev jj (fo:Nat→FuncId) (B0:se) (w:World) (R:Rd) (φ:Pl) (H:List aa) (P:Program) (s:Sem Value) (v:AV) (H':List aa):Prop:=vn fo B0 w R φ H (s.run P w) v H'
theorem Vc {x:AV} {vx:Value} (hx:Yb fo (K R φ H) x vx) {k:IntKind} {n:Int} (h:AM.asInt x=some (k,n)):vx= .int k n:=by
 cases x with
 |pv p=>
  cases p with
  |int k' n'=>
   simp[AM.asInt] at h
   obtain⟨rfl,rfl⟩:=h
   have:=hx.qb
   cases this
   rfl
  |_=>simp[AM.asInt] at h
 |_=>simp[AM.asInt] at h
theorem Fu {x:AV} {vx:Value} (hx:Yb fo (K R φ H) x vx) {b:Bool} (h:AM.asBool x=some b):vx= .bool b:=by
 cases x with
 |pv p=>
  cases p with
  |bool b'=>
   simp[AM.asBool] at h
   subst h
   have:=hx.qb
   cases this
   rfl
  |_=>simp[AM.asBool] at h
 |_=>simp[AM.asBool] at h
theorem Lw (hS:Kb fo B0 w R φ H) {x y:AV} {vx:Value} (hx:Yb fo (K R φ H) x vx) {d:Nat} (h:place H d x=some y):∃ b o,vx= .pointer (some ⟨b,o,none⟩)∧Yb fo (K R φ H) y (.pointer (some ⟨b,o+d,none⟩)):=by
 cases hx with
 |atom x vx hx=>
  cases x with
  |pv p=>
   have hx:Ea R p vx:=hx
   cases p with
   |rp row off=>
    simp[place] at h;subst h
    cases hx with
    |rp _ _ b o hr=>exact⟨b,o+off,rfl,.atom _ _ (by rw[Nat.add_assoc];exact Ea.rp row (off+d) b o hr)⟩
   |_=>simp[place] at h
  |ptr id off=>
   simp only[place] at h
   split at h
   ·rename_i c hc
    injection h with h;subst h
    refine⟨_,_,hx.2.2 c hc,.atom _ _ ⟨hx.1,rfl,fun c' hc'=>rfl⟩⟩
   ·cases h
  |ic id n off=>
   simp only[place] at h
   split at h
   ·rename_i sz ag c fl nl hc
    obtain⟨k0,kk⟩:=hx.2.2 _ _ _ _ _ hc
    obtain⟨h0,h1,h2,hao,h3⟩:=hS.obj id _ hc
    have out:∀ {v:Value} {bb oo:Nat},v= .pointer (some ⟨bb,oo+d,none⟩)→((c.length=n→bb=(φ id).1∧oo=off)∧(∀ ps,Bc (c.take n)=some ps→0 < n→(bb=(φ id).1∧oo=off)∨∃ o,oo=o+off∧we R ps bb o))→fl≤n→
     Yb fo (K R φ H) (.ic id n (off+d)) v:=by
     intro v bb oo hv hq hfl
     subst hv
     refine .atom _ _ ⟨hx.1,rfl,fun sz' ag' c' fl' nl' hc'=> ?_⟩
     rw[hc] at hc'
     injection hc' with hc';injection hc' with e1 e2 e3 e4 e5
     subst e1 e2 e3 e4 e5
     refine⟨k0,fun _=>⟨fun e=> ?_,fun ps hps hn0=> ?_⟩⟩
     ·obtain⟨rfl,rfl⟩:=hq.1 e;rfl
     ·rcases hq.2 ps hps hn0 with⟨rfl,rfl⟩ | ⟨o,rfl,hr⟩
      ·exact .inl rfl
      ·exact .inr ⟨bb,o,by rw[Nat.add_assoc],hr⟩
    split at h
    ·rename_i hn
     injection h with h;subst h
     have hv:=(kk (by omega)).1 hn
     exact⟨_,_,hv,out rfl ⟨fun _=>⟨rfl,rfl⟩,fun _ _ _=> .inl ⟨rfl,rfl⟩⟩ (by omega)⟩
    ·split at h
     ·rename_i hn hf
      simp only[Option.map_eq_some_iff] at h
      obtain⟨ps,hps,rfl⟩:=h
      rcases (kk hf.1).2 ps hps hf.2 with hv | ⟨b,o,hv,hr⟩
      ·exact⟨_,_,hv,out rfl ⟨fun e=>absurd e hn,fun _ _ _=> .inl ⟨rfl,rfl⟩⟩ hf.1⟩
      ·refine⟨_,_,hv,out rfl ⟨fun e=>absurd e hn,fun ps' hps' _=> .inr ⟨o,rfl,?_⟩⟩ hf.1⟩
       rw[hps] at hps';injection hps' with hps';subst hps';exact hr
     ·cases h
   ·cases h
  |_=>simp[place] at h
 |_=>simp[place] at h
theorem cJ {x y:AV} (h:place H 0 x=some y):y=x:=by
 cases x with
 |pv p=>cases p <;> simp_all [place]
 |ptr id off=>simp only[place] at h;split at h <;> simp_all
 |ic id n off=>
  simp only[place] at h
  split at h
  ·split at h
   ·simp_all
   ·split at h
    ·simp only[Option.map_eq_some_iff] at h;obtain⟨_,_,rfl⟩:=h;rfl
    ·cases h
  ·cases h
 |_=>simp[place] at h
theorem EL (hS:Kb fo B0 w R φ H) {x y:AV} {vx:Value} (hx:Yb fo (K R φ H) x vx) {s:TypeId} {f:Nat} {fs:Array Field} {fd:Field} {n:Nat} (hu:P.underlying s=some (.struct fs)) (hf:fs[f]? =some fd)
 (hn:Oc P fd.type=some n) (hn0:n≠0) (h:place H fd.offset x=some y):jj fo B0 w R φ H P (Instr.fieldAt s vx f) y H:=by
 obtain⟨b,o,rfl,h2⟩:=Lw hS hx h
 refine vn.same _ hS ?_ h2
 simp[Instr.fieldAt,run_underlying hu,hf,Instr.sureAddr,fieldPlace,Ob hn,hn0,uk]
theorem TH (hS:Kb fo B0 w R φ H) {x y:AV} {vx:Value} (hx:Yb fo (K R φ H) x vx) {t el:TypeId} {n sz:Nat} {k:IntKind} {i:Int} (hu:P.underlying t=some (.array n el)) (hsz:Oc P el=some sz) (hi:Ca i n)
 (h:place H (i.toNat * sz) x=some y):jj fo B0 w R φ H P (Instr.indexAt t vx (.int k i)) y H:=by
 obtain⟨b,o,rfl,h2⟩:=Lw hS hx h
 refine vn.same _ hS ?_ h2
 obtain⟨i1,i2⟩:=hi
 simp[Instr.indexAt,asIntOf,run_underlying hu,Instr.sureAddr,i1,i2,Ob hsz,uk]
theorem DL (hS:Kb fo B0 w R φ H) {x y:AV} {vx:Value} (hx:Yb fo (K R φ H) x vx) {t el:TypeId} {sz:Nat} {k:IntKind} {i:Int} (hu:P.underlying t=some (.slice el)) (hsz:Oc P el=some sz)
 (h:ma H sz x i=some y):jj fo B0 w R φ H P (Instr.indexAt t vx (.int k i)) y H:=by
 have run:∀ (b o len cap:Nat),0≤i→i < (len:Int)→(Instr.indexAt t (.slice (some ⟨b,o,none⟩) len cap) (.int k i)).run P w= .ok (.pointer (some ⟨b,o+i.toNat * sz,none⟩)) w:=by
  intro b o len cap i1 i2
  simp[Instr.indexAt,asIntOf,run_underlying hu,i1,i2,Ob hsz,uk]
 have litc:∀ {es:List PV},Ea R (.lit sz es) vx→Ca i es.length→es[i.toNat]?.map (fun e=>AV.pv (.rp e.cells 0))=some y→jj fo B0 w R φ H P (Instr.indexAt t vx (.int k i)) y H:=by
  intro es hp hi hy
  cases hp with
  |lit _ _ b o cap h1 h2 h3=>
   simp only[Option.map_eq_some_iff] at hy
   obtain⟨el,he,rfl⟩:=hy
   refine vn.same _ hS (run b o _ _ hi.1 hi.2) (.atom _ _ ?_)
   show Ea _ _ _
   have h4:=(h3.drop (i.toNat * sz)).take sz
   rw[IF h2 he] at h4
   exact Ea.rp _ 0 b _ h4
  |Oy _ a=>simp at hy
 cases hx with
 |atom x vx hx=>
  cases x with
  |pv p=>
   cases p with
   |lit s es=>
    simp only[ma] at h
    split at h
    ·rename_i hc;obtain⟨rfl,hi⟩:=hc;exact litc hx hi h
    ·cases h
   |_=>simp[ma] at h
  |uq id nl s es=>
   simp only[ma] at h
   split at h
   ·rename_i hc
    obtain⟨rfl,hi⟩:=hc
    cases nl with
    |true=>
     obtain⟨_,rfl⟩:=hx.2.1 rfl
     simp[Ca] at hi;omega
    |false=>exact litc (hx.2.2.1 rfl) hi h
   ·cases h
  |own id len=>
   simp only[ma] at h
   split at h
   ·rename_i s ag c fl nl hc
    split at h
    ·rename_i hi
     obtain⟨rfl,hi,hw1,hw2⟩:=hi
     obtain⟨k0,k⟩:=hx.2.2 _ _ _ _ _ hc
     obtain⟨h0,h1,h2,hao,h3⟩:=hS.obj id _ hc
     have hlen:0 < len:=by have:=hi.1;have:=hi.2;omega
     have hnl:nl=false:=by
      cases nl with
      |false=>rfl
      |true=>
       have:=h2 rfl
       subst this
       simp only[List.length_nil] at k0
       have:0 < len * s:=Nat.mul_pos hlen h0
       omega
     subst hnl
     injection h with h;subst h
     obtain⟨k1,k2⟩:=k hw1
     rcases k2 rfl with⟨q1,_,_⟩ | ⟨b,o,cap,q1,q2,q3⟩
     ·omega
     ·subst q1
      refine vn.same _ hS (run _ _ _ _ hi.1 hi.2) (.atom _ _ ⟨hx.1,rfl,fun sz' ag' c' fl' nl' hc'=> ?_⟩)
      rw[hc] at hc'
      injection hc' with hc';injection hc' with e1 e2 e3 e4 e5
      subst e1 e2 e3 e4 e5
      refine⟨k0,fun _=>⟨fun e=> ?_,fun ps hps _=> ?_⟩⟩
      ·obtain⟨rfl,rfl,_⟩:=q2 e.symm
       rw[Nat.zero_add]
      ·rcases q3 ps hps with⟨rfl,rfl⟩ | hr
       ·rw[Nat.zero_add];exact .inl rfl
       ·exact .inr ⟨b,o,rfl,hr⟩
    ·cases h
   ·cases h
  |_=>simp[ma] at h
 |_=>simp[ma] at h
end ops
end Go.AM
set_option linter.unusedSimpArgs false
set_option linter.unusedVariables false
namespace Go.AM
open Go.RowKit
section ops
variable {P:Program} {fo:Nat→FuncId} {B0:se} {w:World} {R:Rd} {φ:Pl} {H:List aa} {e:Tr} {a:Act}
theorem pL (hS:Kb fo B0 w R φ H) {t:TypeId} {zero:List PV} (hz:Jm P t zero=true):jj fo B0 w R φ H P (Instr.alloc t true (.tuple #[])) (.ptr H.length 0) (H++[.box (zero.map .pv)]):=by
 unfold Jm at hz
 cases hi:P.info? t with
 |none=>simp[hi] at hz
 |some i=>
  simp only[hi] at hz
  cases hzz:i.zero with
  |none=>simp[hzz] at hz
  |some z=>
   simp only[hzz] at hz
   obtain⟨h1,h2⟩:=Ii (R:=R) hz
   have:=VJ (fo:=fo) (B0:=B0) hS (La.ey h1) h2 t
   simpa[jj,Instr.alloc,zeroValue,run_typeInfo w hi,hzz,newVar,newRow] using this
theorem sR (hS:Kb fo B0 w R φ H) {t:TypeId} {x:AV} {vx:Value} (hx:Yb fo (K R φ H) x vx) (h1:x.cells.all AV.one=true):jj fo B0 w R φ H P (Instr.box t vx) (.ptr H.length 0) (H++[.box x.cells]):=by
 have:=VJ hS (Ct hx h1) h1 t
 simpa[jj,Instr.box,newVar,newRow] using this
theorem aL {cs:List AV} {ps:List PV} {vs:List Value} (h:Va (Ab [] 0) cs=some ps) (hc:La fo (K R φ H) cs vs):xd R ps vs:=by
 induction cs generalizing ps vs with
 |nil=>simp[Va] at h;subst h;cases hc;exact .nil
 |cons c cs ih=>
  simp only[Va,Option.bind_eq_some_iff,Option.some.injEq] at h
  obtain⟨b,h1,bs,h2,rfl⟩:=h
  cases hc with
  |cons _ _ v vs hv hvs=>
   refine .cons _ _ _ _ ?_ (ih h2 hvs)
   cases c with
   |pv p=>simp[Ab] at h1;subst h1;exact hv.qb
   |uq id nl sz es=>
    have hk:K R φ H (.uq id nl sz es) v:=by cases hv with | atom _ _ h=>exact h
    simp[Ab] at h1
    cases nl with
    |true=>simp at h1;subst h1;rw[(hk.2.1 rfl).1];exact .qa
    |false=>simp at h1;subst h1;exact hk.2.2.1 rfl
   |_=>simp[Ab] at h1
theorem lO (hS:Kb fo B0 w R φ H) {t:TypeId} {x:AV} {vx:Value} (hx:Yb fo (K R φ H) x vx) (h1:x.cells.all AV.one=true) {ps:List PV} (hps:Va (Ab [] 0) x.cells=some ps):jj fo B0 w R φ H P (Instr.box t vx) (.pv (.rp ps 0)) H:=by
 have hc:=Ct hx h1
 have hone:=gl hc h1
 have hl:=aL hps hc
 have hsub:=Pv hS (fun o=>vx.cells.toList[o]?)
 have hk:=fun a v=>K.sub (φ:=φ) (H:=H) hsub a v
 have hold:∀ b,b < w.heap.size→({w with heap:=w.heap.push (.cells ⟨vx.cells.toList⟩ t)}:World).heap[b]? =w.heap[b]? :=fun b hb=>Of hb
 have hblk:Xt {w with heap:=w.heap.push (.cells ⟨vx.cells.toList⟩ t)} w.heap.size ⟨vx.cells.toList⟩:=⟨t,(0,0),by simp,fun o _ h=>by omega⟩
 have hrun:(Instr.box t vx).run P w= .ok (.pointer (some ⟨w.heap.size,0,none⟩)) {w with heap:=w.heap.push (.cells ⟨vx.cells.toList⟩ t)}:=by simp[Instr.box,newVar,newRow]
 refine⟨_,_,Ul R w.heap.size (fun o=>vx.cells.toList[o]?),φ,hrun,⟨Nat.le_trans hS.low (by simp),fun b o v h=> ?_,fun id o ho=> ?_,hS.inj,fun b o hb=>by have:=hS.low;unfold Ul;rw[if_neg (by omega)];exact hS.ml b o hb,fun k hk=>Nat.lt_of_lt_of_le (hS.slt k hk) (by simp),hS.free⟩,.atom _ _ (show Ea _ _ _ from ?_),hk,Cu hS.low hS.slt _⟩
 ·unfold Ul at h
  split at h
  ·rename_i e;subst e;rw[hblk.cell];simpa using h
  ·have:=hS.sub b o v h
   rw[Ud (hold b (Ri this))];exact this
 ·have hO:=hS.obj id o ho
  refine hO.Wc (fun hlv=>⟨hold _ (hO.lt hlv),fun j hj=> ?_⟩) rfl hk
  have:=hO.lt hlv
  unfold Ul
  rw[if_neg (by omega)];exact hj
 ·have:=Ea.rp (R:=Ul R w.heap.size (fun o=>vx.cells.toList[o]?)) ps 0 w.heap.size 0 (we.yk (hl.mono hsub) hone fun i v hi=>by
   simp only[Ul,Nat.zero_add,if_true];exact hi)
  simpa using this
theorem vP (hS:Kb fo B0 w R φ H) {t ty:TypeId} {x:AV} {vx:Value} {k n:Nat} (hx:Yb fo (K R φ H) x vx) (hu:(k=0∧∃ e,P.underlying t=some (.slice e))∨(k=1∧P.underlying t=some .string)) (h:Mc H k x=some n):
 jj fo B0 w R φ H P (Builtin.len_ #[t] ty #[vx]) (nK n) H:=by
 rcases hu with⟨rfl,e,hu⟩ | ⟨rfl,hu⟩
 ·have slices:(∃ a c,vx= .slice a n c)→jj fo B0 w R φ H P (Builtin.len_ #[t] ty #[vx]) (nK n) H:=by
   rintro⟨a,c,rfl⟩
   refine vn.same (.int .i64 n) hS ?_ (.atom _ _ (show Ea R _ _ from .int _ _))
   simp[Builtin.len_,run_underlying hu,goInt]
  cases hx with
  |atom x vx hx=>
   cases x with
   |pv p=>
    have hx:Ea R p vx:=hx
    cases p with
    |qa=>simp[Mc] at h;subst h;cases hx <;> exact slices ⟨_,_,rfl⟩
    |lit s es=>simp[Mc] at h;subst h;cases hx <;> exact slices ⟨_,_,rfl⟩
    |_=>simp[Mc] at h
   |uq id nl s es=>
    simp[Mc] at h;subst h
    cases nl with
    |true=>obtain⟨rfl,rfl⟩:=hx.2.1 rfl;exact slices ⟨_,_,rfl⟩
    |false=>
     have:=hx.2.2.1 rfl
     cases this <;> exact slices ⟨_,_,rfl⟩
   |own id len=>
    simp only[Mc] at h
    split at h
    ·rename_i sz ag c fl nl hc
     split at h
     ·rename_i hw
      injection h with h;subst h
      obtain⟨k0,k⟩:=hx.2.2 _ _ _ _ _ hc
      obtain⟨k1,k2⟩:=k hw.1
      obtain⟨h0,h1,h2,_⟩:=hS.obj id _ hc
      cases nl with
      |true=>
       have:=h2 rfl
       subst this
       have hl0:len=0:=by
        rcases Nat.mul_eq_zero.1 (Nat.le_zero.1 k0) with h | h
        ·exact h
        ·omega
       subst hl0
       exact slices ⟨_,_,k1 rfl⟩
      |false=>
       rcases k2 rfl with⟨q1,_,q3⟩ | ⟨b,o,cap,q1,_,_⟩
       ·subst q1;exact slices ⟨_,_,q3⟩
       ·exact slices ⟨_,_,q1⟩
     ·cases h
    ·cases h
   |_=>simp[Mc] at h
  |_=>simp[Mc] at h
 ·cases x with
  |pv p=>
   cases p with
   |str s=>
    simp[Mc] at h;subst h
    have:=hx.qb
    cases this
    refine vn.same (.int .i64 s.size) hS ?_ (.atom _ _ (show Ea R _ _ from .int _ _))
    simp[Builtin.len_,run_underlying hu,goInt]
   |_=>simp[Mc] at h
  |_=>simp[Mc] at h
theorem lj {len cap:Nat} {lo hi:Option Value} {l h:Int} (hlo:(lo=none∧l=0)∨∃ k,lo=some (.int k l)) (hhi:(hi=none∧h=len)∨∃ k,hi=some (.int k h)) (KS:Bool) (h0:0≤l) (h1:l≤h) (h2:h≤cap):
 (Instr.sliceBounds KS len cap lo hi none).run P w= .ok (l.toNat,h.toNat,cap) w:=by
 have hh:0≤h:=by omega
 have hb:l≤(h.toNat:Int):=by omega
 rcases hlo with⟨rfl,rfl⟩ | ⟨k,rfl⟩ <;> rcases hhi with⟨rfl,rfl⟩ | ⟨k',rfl⟩ <;>
  simp[Instr.sliceBounds,Instr.sliceBound,asIntOf,h0,hh,h2,hb] <;> (intro hlt;exfalso;omega)
theorem TK (hS:Kb fo B0 w R φ H) {t:TypeId} {x y:AV} {vx:Value} {sz:Nat} (hx:Yb fo (K R φ H) x vx) (hu:(sz≠0∧∃ el,P.underlying t=some (.slice el)∧Oc P el=some sz)∨(sz=0∧P.underlying t=some .string))
 {lo hi:Option Value} {lo' hi':Option Int} (hlo:(lo=none∧lo'=none)∨∃ k l,lo=some (.int k l)∧lo'=some l) (hhi:(hi=none∧hi'=none)∨∃ k h,hi=some (.int k h)∧hi'=some h)
 (h:Ad H sz x lo' hi'=some y):jj fo B0 w R φ H P (Instr.sliceAt t vx lo hi none) y H:=by
 have hb1:(lo=none∧lo'.getD 0=0)∨∃ k,lo=some (.int k (lo'.getD 0)):=by
  rcases hlo with⟨rfl,rfl⟩ | ⟨k,l,rfl,rfl⟩
  ·exact .inl ⟨rfl,rfl⟩
  ·exact .inr ⟨k,rfl⟩
 have hb2:∀ n:Nat,(hi=none∧hi'.getD n=n)∨∃ k,hi=some (.int k (hi'.getD n)):=by
  intro n
  rcases hhi with⟨rfl,rfl⟩ | ⟨k,l,rfl,rfl⟩
  ·exact .inl ⟨rfl,rfl⟩
  ·exact .inr ⟨k,rfl⟩
 have litc:∀ {es:List PV},sz≠0→Ea R (.lit sz es) vx→0≤lo'.getD 0→lo'.getD 0≤hi'.getD (es.length:Int)→hi'.getD (es.length:Int)≤(es.length:Int)→
  jj fo B0 w R φ H P (Instr.sliceAt t vx lo hi none) (.pv (.lit sz ((es.take (hi'.getD (es.length:Int)).toNat).drop (lo'.getD 0).toNat))) H:=by
  intro es hsz hp h1 h2 h3
  obtain⟨_,el,hut,hel⟩:=hu.resolve_right (fun h=>hsz h.1)
  cases hp with
  |lit _ _ b o cap c1 c2 c3=>
   have hrun:=lj (P:=P) (w:=w) (cap:=cap) hb1 (hb2 es.length) true h1 h2 (by omega)
   have hlen:((es.take (hi'.getD (es.length:Int)).toNat).drop (lo'.getD 0).toNat).length=(hi'.getD (es.length:Int)).toNat - (lo'.getD 0).toNat:=by simp;omega
   have hmem:∀ e∈(es.take (hi'.getD (es.length:Int)).toNat).drop (lo'.getD 0).toNat,e.cells.length=sz:=fun e he=>c2 e (List.mem_of_mem_take (List.mem_of_mem_drop he))
   have hmem1:∀ e∈es.take (hi'.getD (es.length:Int)).toNat,e.cells.length=sz:=fun e he=>c2 e (List.mem_of_mem_take he)
   by_cases hm:cap=(lo'.getD 0).toNat
   ·refine vn.same (.slice (some ⟨b,o,none⟩) ((hi'.getD (es.length:Int)).toNat - (lo'.getD 0).toNat) (cap - (lo'.getD 0).toNat)) hS ?_ (.atom _ _ ?_)
    ·simp[Instr.sliceAt,Instr.slice,run_underlying hut,hrun,Ob hel]
     intro hne;exact absurd hm hne
    ·have h0:(es.take (hi'.getD (es.length:Int)).toNat).drop (lo'.getD 0).toNat=[]:=List.eq_nil_of_length_eq_zero (by omega)
     show Ea _ _ _
     have:=Ea.lit (R:=R) sz ((es.take (hi'.getD (es.length:Int)).toNat).drop (lo'.getD 0).toNat) b o (cap - (lo'.getD 0).toNat) (by omega) hmem (by rw[h0];exact .nil _ _)
     rw[hlen] at this
     exact this
   ·refine vn.same (.slice (some ⟨b,o+(lo'.getD 0).toNat * sz,none⟩) ((hi'.getD (es.length:Int)).toNat - (lo'.getD 0).toNat) (cap - (lo'.getD 0).toNat)) hS ?_ (.atom _ _ ?_)
    ·simp[Instr.sliceAt,Instr.slice,run_underlying hut,hrun,Ob hel,hm,uk]
    ·show Ea _ _ _
     have:=Ea.lit (R:=R) sz ((es.take (hi'.getD (es.length:Int)).toNat).drop (lo'.getD 0).toNat) b (o+(lo'.getD 0).toNat * sz) (cap - (lo'.getD 0).toNat) (by omega) hmem (by
      rw[Kt hmem1,Dp c2]
      exact (c3.take _).drop _)
     rw[hlen] at this
     exact this
  |Oy _ a=>
   have e1:hi'.getD (([]:List PV).length:Int)=0:=by simp only[List.length_nil] at h2 h3 ⊢;omega
   have e2:lo'.getD 0=0:=by omega
   have hrun:=lj (P:=P) (w:=w) (cap:=0) hb1 (hb2 0) true h1 h2 (by simpa using h3)
   have e3:hi'.getD ((0:Nat):Int)=0:=e1
   rw[e2,e3] at hrun
   refine vn.same (.slice (some a) 0 0) hS ?_ (.atom _ _ (by simp only[List.take_nil,List.drop_nil];exact (show Ea R _ _ from .Oy _ _)))
   simp[Instr.sliceAt,Instr.slice,run_underlying hut,hrun,Ob hel]
 have nilc:sz≠0→vx= .slice none 0 0→lo'.getD 0=0→hi'.getD 0=0→jj fo B0 w R φ H P (Instr.sliceAt t vx lo hi none) (.pv .qa) H:=by
  intro hsz hv h1 h2
  subst hv
  obtain⟨_,el,hut,hel⟩:=hu.resolve_right (fun h=>hsz h.1)
  have hrun:=lj (P:=P) (w:=w) (len:=0) (cap:=0) hb1 (hb2 0) true (by omega) (by simp[h1,h2]) (by simp[h2])
  rw[h1] at hrun
  have h2':hi'.getD ((0:Nat):Int)=0:=h2
  rw[h2'] at hrun
  refine vn.same _ hS ?_ (.atom _ _ (show Ea R _ _ from .qa))
  simp at hrun
  simp[Instr.sliceAt,Instr.slice,run_underlying hut,hrun,Ob hel]
 cases hx with
 |atom x vx hx=>
  cases x with
  |pv p=>
   have hx:Ea R p vx:=hx
   cases p with
   |qa=>
    simp only[Ad] at h
    split at h
    ·rename_i hc
     injection h with h;subst h
     cases hx
     exact nilc (by omega) rfl hc.2.1 hc.2.2
    ·cases h
   |lit s es=>
    simp only[Ad] at h
    split at h
    ·rename_i hc
     obtain⟨c0,rfl,c1,c2,c3⟩:=hc
     injection h with h;subst h
     exact litc (by omega) hx c1 c2 c3
    ·cases h
   |str s=>
    simp only[Ad] at h
    split at h
    ·rename_i hc
     obtain⟨c0,c1,c2,c3⟩:=hc
     injection h with h;subst h
     cases hx
     have hut:=(hu.resolve_left (fun h=>h.1 c0)).2
     have hrun:=lj (P:=P) (w:=w) (len:=s.size) (cap:=s.size) hb1 (hb2 s.size) false c1 c2 c3
     refine vn.same _ hS ?_ (.atom _ _ (show Ea R _ _ from .str _))
     simp[Instr.sliceAt,Instr.slice,run_underlying hut,hrun]
    ·cases h
   |_=>simp[Ad] at h
  |uq id nl s es=>
   simp only[Ad] at h
   split at h
   ·rename_i hc
    obtain⟨c0,rfl,c1,c2,c3⟩:=hc
    injection h with h;subst h
    cases nl with
    |true=>
     obtain⟨rfl,rfl⟩:=hx.2.1 rfl
     simp at c2 c3
     refine nilc (by omega) rfl ?_ ?_ <;> omega
    |false=>exact litc (by omega) (hx.2.2.1 rfl) c1 c2 c3
   ·cases h
  |_=>simp[Ad] at h
 |_=>simp[Ad] at h
end ops
end Go.AM
set_option linter.unusedSimpArgs false
set_option linter.unusedVariables false
namespace Go.AM
open Go.RowKit
section ops
variable {P:Program} {fo:Nat→FuncId} {B0:se} {w:World} {R:Rd} {φ:Pl} {H:List aa} {e:Tr} {a:Act}
theorem OQ {op:BinOp} {x y:AV} {vx vy:Value} {p:PV} (hx:Yb fo (K R φ H) x vx) (hy:Yb fo (K R φ H) y vy) (h:nH op x y=some p) (t:TypeId) (ox oy:Operand):
 ∃ v,(do eqGuard op t ox oy vx vy;binOp op t vx vy:Sem Value).run P w= .ok v w∧Ea R p v:=by
 have ints:∀ {k:IntKind} {m n:Int},vx= .int k m→vy= .int k n→(op≠ .shl)→(op≠ .shr)→Nh op k m n=some p→∃ v,(do eqGuard op t ox oy vx vy;binOp op t vx vy:Sem Value).run P w= .ok v w∧Ea R p v:=by
  rintro k m n rfl rfl h1 h2 hb
  cases op <;> simp only[Nh] at hb <;> first
   |exact absurd rfl h1
   |exact absurd rfl h2
   | (cases hb;done)
   | (injection hb with hb;subst hb;exact⟨_,by simp[eqGuard,binOp,Op.intArith,Op.intBits,Op.intCmp];rfl,by constructor⟩)
   | (injection hb with hb;subst hb;exact⟨.int k _,rfl,.int _ _⟩)
   | (split at hb
      ·cases hb
      ·rename_i hn;injection hb with hb;subst hb;exact⟨_,by simp[eqGuard,binOp,Op.intDiv,hn];rfl,by constructor⟩)
 have shifts:∀ {k k':IntKind} {m n:Int},vx= .int k m→vy= .int k' n→¬n < 0→(op= .shl∧p= .int k (k.wrap (m * 2 ^ (min n.toNat k.bits))))∨(op= .shr∧p= .int k (m.fdiv (2 ^ (min n.toNat k.bits))))→
  ∃ v,(do eqGuard op t ox oy vx vy;binOp op t vx vy:Sem Value).run P w= .ok v w∧Ea R p v:=by
  rintro k k' m n rfl rfl hn hp
  rcases hp with⟨rfl,rfl⟩ | ⟨rfl,rfl⟩ <;> exact⟨_,by simp[eqGuard,binOp,Op.shift,hn];rfl,by constructor⟩
 have strs:∀ {s u:ByteArray},vx= .string s→vy= .string u→LH op s u=some p→∃ v,(do eqGuard op t ox oy vx vy;binOp op t vx vy:Sem Value).run P w= .ok v w∧Ea R p v:=by
  rintro s u rfl rfl hb
  cases op <;> simp only[LH] at hb <;> first
   |cases hb;done
   | (injection hb with hb;subst hb;exact⟨_,by simp[eqGuard,binOp,Op.stringOp,ByteArray.toList_eq];rfl,by constructor⟩)
   | (injection hb with hb;subst hb;rw[← ByteArray.toList_eq,←ByteArray.toList_eq];exact⟨.bool _,rfl,.bool _⟩)
   | (split at hb
      ·rename_i hn
       injection hb with hb;subst hb
       have hn':¬(((s.size+u.size:Nat):Int) > IntKind.i64.max):=by omega
       exact⟨_,by simp only[eqGuard,binOp,Op.stringOp,if_neg hn'];simp;rfl,by constructor⟩
      ·cases hb)
 unfold nH at h
 split at h
 ·split at h
  ·cases h
  ·rename_i hn
   injection h with h
   refine shifts (Vc hx rfl) (Vc hy rfl) hn (.inl ⟨rfl,h.symm⟩)
 ·split at h
  ·cases h
  ·rename_i hn
   injection h with h
   refine shifts (Vc hx rfl) (Vc hy rfl) hn (.inr ⟨rfl,h.symm⟩)
 ·rename_i h1 h2
  split at h
  ·rename_i hk
   subst hk
   exact ints (Vc hx rfl) (Vc hy rfl) (fun e=>h1 e) (fun e=>h2 e) h
  ·cases h
 ·have h1:=hx.qb
  have h2:=hy.qb
  cases h1;cases h2
  exact strs rfl rfl h
 ·cases h
theorem kS {op:UnOp} {x:AV} {vx:Value} {p:PV} (hx:Yb fo (K R φ H) x vx) (h:ZR op x=some p):∃ v,(Op.unary op vx).run P w= .ok v w∧Ea R p v:=by
 unfold ZR at h
 split at h
 ·injection h with h;subst h
  rw[Vc hx rfl]
  exact⟨_,by simp[Op.unary,Op.intArith];rfl,by simpa using Ea.int _ _⟩
 ·injection h with h;subst h
  rw[Fu hx rfl]
  exact⟨_,by simp[Op.unary];rfl,by constructor⟩
 ·injection h with h;subst h
  rw[Vc hx rfl]
  exact⟨_,by simp[Op.unary,Op.intBits];rfl,by constructor⟩
 ·cases h
theorem aO {s d:TypeId} {ds:TypeDesc} {k k':IntKind} {n:Int} (hs:P.underlying s=some ds) (hd:P.underlying d=some (.int k)):(convert s d (.int k' n)).run P w= .ok (.int k (k.wrap n)) w:=by
 simp[convert,run_underlying hs,run_underlying hd,Conv.intToInt]
theorem VC {es:List PV} {l:List UInt8} {vs:List Value} (hb:bytesOf es=some l) (hl:xd R es vs):∃ ns:List Int,vs=ns.map (Value.int .u8)∧l=ns.map fun n=>UInt8.ofNat n.toNat:=by
 induction es generalizing l vs with
 |nil=>simp[bytesOf] at hb;subst hb;cases hl;exact⟨[],rfl,rfl⟩
 |cons p es ih=>
  cases p with
  |int k n=>
   cases k with
   |u8=>
    simp only[bytesOf,Option.map_eq_some_iff] at hb
    obtain⟨l',h1,rfl⟩:=hb
    cases hl with
    |cons _ _ v vs h2 h3=>
     cases h2
     obtain⟨ns,rfl,rfl⟩:=ih h1 h3
     exact⟨n::ns,rfl,rfl⟩
   |_=>simp[bytesOf] at hb
  |_=>simp[bytesOf] at hb
theorem foldl_push (ns:List Int) (s:ByteArray):(ns.foldl (fun r n=>r.push (UInt8.ofNat n.toNat)) s).data.toList=s.data.toList++ns.map fun n=>UInt8.ofNat n.toNat:=by
 induction ns generalizing s with
 |nil=>simp
 |cons n ns ih=>simp[ih]
theorem mI {es:List PV} {l:List UInt8} (h:bytesOf es=some l):flat es=es:=by
 induction es generalizing l with
 |nil=>rfl
 |cons p es ih=>
  cases p with
  |int k n=>
   cases k with
   |u8=>
    simp only[bytesOf,Option.map_eq_some_iff] at h
    obtain⟨l',h1,_⟩:=h
    simp[flat,PV.cells,ih h1]
   |_=>simp[bytesOf] at h
  |_=>simp[bytesOf] at h
theorem OJ (hS:Kb fo B0 w R φ H) {es:List PV} {l:List UInt8} {vx:Value} (hp:Ea R (.lit 1 es) vx) (hb:bytesOf es=some l):(Conv.bytesToString vx).run P w= .ok (.string ⟨l.toArray⟩) w:=by
 cases hp with
 |lit _ _ b o cap h1 h2 h3=>
  obtain⟨vs,k1,k2,k3⟩:=h3.list
  rw[mI hb] at k1
  obtain⟨ns,rfl,rfl⟩:=VC hb k1
  have hl:=k1.length
  have:=run_bytesToString (P:=P) w ⟨b,o,none⟩ es.length cap ns (by
   have:=oi (P:=P) (w:=w) (b:=b) (o:=o) (vs:=ns.map (Value.int .u8)) (fun j v hj=>hS.sub _ _ _ (k3 j v hj)) hl
   simpa using this)
  rw[this]
  congr 2
  have h4:=foldl_push ns ByteArray.empty
  generalize ns.foldl (fun r n=>r.push (UInt8.ofNat n.toNat)) ByteArray.empty=z at h4
  obtain⟨⟨z⟩⟩:=z
  simp at h4
  subst h4
  rfl
 |Oy _ a=>
  simp only[bytesOf,Option.some.injEq] at hb
  subst hb
  simp[Conv.bytesToString,loadCells,loadCellsFrom]
  rfl
theorem mE (off:Nat):∀ (vs:List Value) (k:Nat) (cs:Array Value),((vs.zipIdx k).foldl (fun (cs:Array Value) (x:Value×Nat)=>cs.setIfInBounds (off+x.2) x.1) cs).toList=oa cs.toList (off+k) vs:=by
 intro vs
 induction vs with
 |nil=>intro k cs;simp[oa]
 |cons v vs ih=>
  intro k cs
  simp only[List.zipIdx_cons,List.foldl_cons]
  rw[ih]
  simp[oa,Nat.add_assoc]
theorem sA (place:Nat→Option (Nat×Nat)):∀ {parts:List (Nat×Value)} {aparts:List (Nat×Nat×AV)} {cs:Array Value} {acs acs':List AV},parts.length=aparts.length→
 (∀ (j:Nat) (i:Nat) (v:Value) (off sz:Nat) (x:AV),parts[j]? =some (i,v)→aparts[j]? =some (off,sz,x)→place i=some (off,sz)∧Yb fo (K R φ H) x v)→
 La fo (K R φ H) acs cs.toList→nm acs aparts=some acs'→∃ cs',Instr.fill place cs parts=some cs'∧La fo (K R φ H) acs' cs'.toList
 | [],[],cs,acs,acs',_,_,hc,h=>by
   simp[nm] at h;subst h
   exact⟨cs,rfl,hc⟩
 | (i,v)::parts,(off,sz,x)::aparts,cs,acs,acs',hl,hp,hc,h=>by
   obtain⟨h1,h2⟩:=hp 0 i v off sz x rfl rfl
   simp only[nm] at h
   split at h
   ·rename_i hcond
    obtain⟨q1,q2,h3⟩:=hcond
    have hcr:=Ct h2 h3
    have hlen:=hcr.length
    have hcl:=hc.length
    have hsz:v.cells.size=sz:=by rw[← q1,←hlen];simp
    have hfit:¬(v.cells.size≠sz∨off+v.cells.size > cs.size):=by
     have:cs.size=acs.length:=by rw[← hcl];simp
     omega
    have hnew:La fo (K R φ H) (oa acs off x.cells) (v.cells.zipIdx.foldl (fun (cs:Array Value) (y:Value×Nat)=>cs.setIfInBounds (off+y.2) y.1) cs).toList:=by
     have:(v.cells.zipIdx.foldl (fun (cs:Array Value) (y:Value×Nat)=>cs.setIfInBounds (off+y.2) y.1) cs).toList=oa cs.toList off v.cells.toList:=by
      have:=mE off v.cells.toList 0 cs
      rw[Nat.add_zero] at this
      rw[← this]
      congr 1
      rw[← Array.foldl_toList,Array.toList_zipIdx]
     rw[this]
     exact hc.oa off hcr
    obtain⟨cs',r1,r2⟩:=sA place (parts:=parts) (aparts:=aparts) (by simpa using hl) (fun j i v off sz x e1 e2=>hp (j+1) i v off sz x (by simpa using e1) (by simpa using e2)) hnew h
    refine⟨cs',?_,r2⟩
    simp only[Instr.fill,h1]
    rw[if_neg (by simpa using hfit)]
    exact r1
   ·cases h
 | [],_::_,_,_,_,hl,_,_,_=>by simp at hl
 |_::_,[],_,_,_,hl,_,_,_=>by simp at hl
theorem tC (place:Nat→Option (Nat×Nat)):∀ (parts:List (Nat×Value)) (cs cs':Array Value),Instr.fill place cs parts=some cs'→cs'.size=cs.size
 | [],cs,cs',h=>by simp[Instr.fill] at h;rw[h]
 | (i,v)::parts,cs,cs',h=>by
   simp only[Instr.fill] at h
   split at h
   ·cases h
   ·split at h
    ·cases h
    ·rw[tC place parts _ _ h]
     have key:∀ (l:List (Value×Nat)) (cs:Array Value) (off:Nat),(l.foldl (fun (cs:Array Value) (x:Value×Nat)=>cs.setIfInBounds (off+x.2) x.1) cs).size=cs.size:=by
      intro l
      induction l with
      |nil=>intro cs off;rfl
      |cons x l ih=>intro cs off;simp only[List.foldl_cons];rw[ih];simp
     rw[← Array.foldl_toList]
     exact key _ _ _
end ops
end Go.AM
set_option linter.unusedSimpArgs false
set_option linter.unusedVariables false
namespace Go.AM
open Go.RowKit
def Qm (zs:List Value):Nat→List Value
 |0=>[]
 |n+1=>zs++Qm zs n
theorem Dn (zs:List Value) (n:Nat):(Qm zs n).length=n * zs.length:=by
 induction n with
 |zero=>simp[Qm]
 |succ n ih=>simp[Qm,ih,Nat.add_mul];omega
theorem fN (zs:List Value) (m n:Nat):Qm zs (m+n)=Qm zs m++Qm zs n:=by
 induction m with
 |zero=>simp[Qm]
 |succ m ih=>rw[Nat.add_right_comm];simp[Qm,ih]
theorem vN (zs:List Value) (h0:0 < zs.length):∀ (n i:Nat),i < n * zs.length→(Qm zs n)[i]? =zs[i % zs.length]? :=by
 intro n
 induction n with
 |zero=>intro i hi;simp at hi
 |succ n ih=>
  intro i hi
  simp only[Qm]
  by_cases hlt:i < zs.length
  ·rw[List.getElem?_append_left hlt,Nat.mod_eq_of_lt hlt]
  ·rw[List.getElem?_append_right (by omega),ih _ (by rw[Nat.add_mul] at hi;omega)]
   rw[Nat.mod_eq_sub_mod (by omega:i≥zs.length)]
theorem ZB (z:Array Value) (n sz:Nat) (hz:z.size=sz) (h0:0 < sz):((Array.range (n * sz)).map fun i=>z[i % z.size]!).toList=Qm z.toList n:=by
 apply List.ext_getElem?
 intro i
 by_cases hi:i < n * sz
 ·rw[vN _ (by simpa[hz] using h0) _ _ (by simpa[hz] using hi)]
  have hm:i % sz < z.size:=by rw[hz];exact Nat.mod_lt _ h0
  simp[hi,hz]
  rw[getElem!_pos z _ hm,getElem?_pos z _ hm]
 ·rw[List.getElem?_eq_none (by simp;omega),List.getElem?_eq_none (by rw[Dn];simp[hz];omega)]
section ops
variable {P:Program} {fo:Nat→FuncId} {B0:se} {w:World} {R:Rd} {φ:Pl} {H:List aa} {e:Tr} {a:Act}
theorem mA {zero:List PV} {zs:List Value} (h:xd R zero zs):∀ n,La fo (K R φ H) (zi zero n) (Qm zs n)
 |0=> .nil
 |n+1=>(La.ey h).append (mA h n)
theorem SF {zero:List PV} (h:(zero.map AV.pv).all AV.one=true):∀ n,(zi zero n).all AV.one=true
 |0=>rfl
 |n+1=>by simp only[zi,List.all_append,Bool.and_eq_true];exact⟨h,SF h n⟩
structure JO (P:Program) (el:TypeId) (sz:Nat) (ag:Bool) (zero:List PV):Prop where
 Vo:Oc P el=some sz
 pos:0 < sz
 OO:ag=false→sz=1
 hz:Jm P el zero=true
 BS:zero.length=sz
theorem JO.zero {el:TypeId} {sz:Nat} {ag:Bool} {zero:List PV} (h:JO P el sz ag zero):∃ i z,P.info? el=some i∧i.zero=some z∧z.cells.size=sz∧xd R zero z.cells.toList∧(zero.map AV.pv).all AV.one=true:=by
 have hz:=h.hz
 unfold Jm at hz
 cases hi:P.info? el with
 |none=>simp[hi] at hz
 |some i=>
  simp only[hi] at hz
  cases hzz:i.zero with
  |none=>simp[hzz] at hz
  |some z=>
   simp only[hzz] at hz
   obtain⟨h1,h2⟩:=Ii (R:=R) hz
   have:=h1.length
   exact⟨i,z,rfl,hzz,by rw[← h.BS,←this];simp,h1,h2⟩
theorem MH (hS:Kb fo B0 w R φ H) {t el:TypeId} {sz len:Nat} {ag:Bool} {zero:List PV} (hu:P.underlying t=some (.slice el)) (hE:JO P el sz ag zero) (hmax:len * sz≤2 ^ 24)
 {parts:List (Nat×Value)} {aparts:List (Nat×Nat×AV)} (hl:parts.length=aparts.length)
 (hp:∀ (j:Nat) (i:Nat) (v:Value) (off s:Nat) (x:AV),parts[j]? =some (i,v)→aparts[j]? =some (off,s,x)→off=i * sz∧s=sz∧Yb fo (K R φ H) x v)
 {hold:Yd} {cs:List AV} (hf:nm (zi zero len) aparts=some cs) (hone:cs.all AV.one=true) {v:AV} {H':List aa} (hfr:fresh H hold sz ag len cs=some (v,H')):
 jj fo B0 w R φ H P (Instr.buildSlice t len parts.toArray) v H':=by
 obtain⟨i,z,hi,hz,hzs,hzr,hz1⟩:=hE.zero (R:=R)
 have hpos:=hE.pos
 have hzero:(if len * sz=0 then (pure #[]:Sem (Array Value)) else do pure (← zeroValue el).cells).run P w= .ok (if len * sz=0 then #[] else z.cells) w:=by
  by_cases h0:len * sz=0
  ·simp[h0]
  ·simp[h0,zeroValue,run_typeInfo w hi,hz]
 have hinit:La fo (K R φ H) (zi zero len) ((Array.range (len * sz)).map fun i=>(if len * sz=0 then #[] else z.cells)[i % (if len * sz=0 then #[] else z.cells).size]!).toList:=by
  by_cases h0:len * sz=0
  ·have:len=0:=by
    rcases Nat.mul_eq_zero.1 h0 with h | h
    ·exact h
    ·omega
   subst this
   simpa[zi] using La.nil
  ·simp only[if_neg h0]
   rw[ZB _ _ _ hzs hpos]
   exact mA hzr _
 obtain⟨cs',hfill,hrel⟩:=sA (fo:=fo) (R:=R) (φ:=φ) (H:=H) (fun i=>some (i * sz,sz)) hl (fun j i v off s x e1 e2=>by
  obtain⟨q1,q2,q3⟩:=hp j i v off s x e1 e2
  subst q1 q2
  exact⟨rfl,q3⟩) hinit hf
 have hlen:cs.length=len * sz:=by
  rw[← hrel.length]
  have:cs'.size=len * sz:=by
   have h1:=tC (fun i=>some (i * sz,sz)) _ _ _ hfill
   rw[h1];simp
  simpa using this
 have:=Dx (w':={w with heap:=w.heap.push (.cells ⟨cs'.toList++[]⟩ el (0,0))}) hS (rest:=[]) hrel hone hpos (n:=len) (cap:=len) (by rw[hrel.length,hlen]) (by simp;rw[← hlen,←hrel.length];simp) hE.OO (fun o _ h=>by omega) rfl rfl rfl rfl hfr
 have hle:¬(len * sz > 2 ^ 24):=by omega
 have hrun:(Instr.buildSlice t len parts.toArray).run P w= .ok (.slice (some ⟨w.heap.size,0,none⟩) len len) {w with heap:=w.heap.push (.cells ⟨cs'.toList++[]⟩ el (0,0))}:=by
  have hpl:parts.toArray.toList=parts:=by simp
  by_cases h0:len * sz=0
  ·simp only[if_pos h0] at hfill
   simp only[Instr.buildSlice,Sem.run_bind,run_underlying hu,Result.andThen_ok,Ob hE.Vo,Sem.run_ite,hle,if_false,Sem.run_pure,if_pos h0,hpl,hfill]
   simp[newRow]
  ·simp only[if_neg h0] at hfill
   simp only[Instr.buildSlice,Sem.run_bind,run_underlying hu,Result.andThen_ok,Ob hE.Vo,Sem.run_ite,hle,if_false,Sem.run_pure,if_neg h0,hpl,zeroValue,run_typeInfo w hi,hz,hfill]
   simp[newRow]
 rw[jj,hrun]
 exact this
theorem NJ {n:Int} (h0:0≤n) (h:n≤9223372036854775807):IntKind.i64.wrap n=n:=IntWalk.i64_in _ (by omega)
theorem ZE (hS:Kb fo B0 w R φ H) {t el:TypeId} {sz bytes:Nat} {ag:Bool} {zero:List PV} (hu:P.underlying t=some (.slice el)) (hE:JO P el sz ag zero) (hby:Sl P el=some bytes) (hb0:0 < bytes)
 {k k':IntKind} {l c:Int} (h0:0≤l) (h1:l≤c) (h2:c.toNat * bytes≤140737488355328) {hold:Yd} {v:AV} {H':List aa} (hfr:fresh H hold sz ag l.toNat (zi zero l.toNat)=some (v,H')):
 jj fo B0 w R φ H P (Instr.makeSlice t (.int k l) (.int k' c)) v H':=by
 obtain⟨i,z,hi,hz,hzs,hzr,hz1⟩:=hE.zero (R:=R)
 have hpos:=hE.pos
 unfold Sl at hby
 simp only[hi,Option.map_some,Option.some.injEq] at hby
 have hcb:(c.toNat:Int)=c:=by omega
 have hcle:c.toNat≤c.toNat * bytes:=Nat.le_mul_of_pos_right _ hb0
 have hc63:c≤9223372036854775807:=by omega
 have hwl:=NJ h0 (by omega:l≤9223372036854775807)
 have hwc:=NJ (by omega:0≤c) hc63
 have hbig:¬((bytes:Int) * c > 2 ^ 48):=by
  have:(bytes:Int) * c=((c.toNat * bytes:Nat):Int):=by rw[Nat.mul_comm];push_cast;rw[hcb]
  rw[this];omega
 have hbig2:¬((bytes:Int) * c > 281474976710656):=by simpa using hbig
 obtain⟨d,hd⟩:∃ d:Nat,c.toNat=l.toNat+d:=⟨c.toNat - l.toNat,by omega⟩
 have hzero:(if c.toNat * sz=0 then (pure #[]:Sem (Array Value)) else do pure (← zeroValue el).cells).run P w= .ok (if c.toNat * sz=0 then #[] else z.cells) w:=by
  by_cases h0:c.toNat * sz=0
  ·simp[h0]
  ·simp[h0,zeroValue,run_typeInfo w hi,hz]
 have harr:((Array.range (c.toNat * sz)).map fun i=>(if c.toNat * sz=0 then #[] else z.cells)[i % (if c.toNat * sz=0 then #[] else z.cells).size]!)=⟨Qm z.cells.toList l.toNat++Qm z.cells.toList d⟩:=by
  apply Array.ext'
  show _=Qm z.cells.toList l.toNat++Qm z.cells.toList d
  rw[← fN,←hd]
  by_cases h0:c.toNat * sz=0
  ·have:c.toNat=0:=by
    rcases Nat.mul_eq_zero.1 h0 with h | h
    ·exact h
    ·omega
   rw[this]
   simp[Qm]
  ·simp only[if_neg h0]
   exact ZB _ _ _ hzs hpos
 have BS:z.cells.toList.length=sz:=by simpa using hzs
 have:=Dx (w':={w with heap:=w.heap.push (.cells ⟨Qm z.cells.toList l.toNat++Qm z.cells.toList d⟩ el (0,0))}) hS (rest:=Qm z.cells.toList d) (mA (fo:=fo) (φ:=φ) (H:=H) hzr l.toNat) (SF hz1 _) hpos (n:=l.toNat) (cap:=c.toNat)
  (by rw[Dn,BS]) (by rw[List.length_append,Dn,Dn,BS,hd,Nat.add_mul]) hE.OO (fun o _ h=>by omega) rfl rfl rfl rfl hfr
 have hrun:(Instr.makeSlice t (.int k l) (.int k' c)).run P w= .ok (.slice (some ⟨w.heap.size,0,none⟩) l.toNat c.toNat) {w with heap:=w.heap.push (.cells ⟨Qm z.cells.toList l.toNat++Qm z.cells.toList d⟩ el (0,0))}:=by
  have hn1:¬(c < 0):=by omega
  have hn2:¬(l < 0):=by omega
  have hn3:¬(l > c):=by omega
  have hif:((decide (c < 0)||decide ((bytes:Int) * c > 2 ^ 48))||decide (l < 0)||decide (l > c))=false:=by
   simp only[hn1,hn2,hn3,hbig,decide_false,Bool.or_false]
  by_cases h0:c.toNat * sz=0
  ·simp only[if_pos h0] at harr
   simp only[Instr.makeSlice,Sem.run_bind,run_underlying hu,Result.andThen_ok,Go.asInt,asIntOf,Sem.run_pure,run_typeInfo w hi,hwl,hwc,hby,hif,Bool.false_eq_true,if_false,run_askRoom,Ob hE.Vo,Sem.run_ite,if_pos h0,harr,newRow,run_newObj]
  ·simp only[if_neg h0] at harr
   simp only[Instr.makeSlice,Sem.run_bind,run_underlying hu,Result.andThen_ok,Go.asInt,asIntOf,Sem.run_pure,run_typeInfo w hi,hwl,hwc,hby,hif,Bool.false_eq_true,if_false,run_askRoom,Ob hE.Vo,Sem.run_ite,if_neg h0,zeroValue,hz,harr,newRow,run_newObj]
 rw[jj,hrun]
 exact this
end ops
end Go.AM
set_option linter.unusedSimpArgs false
set_option linter.unusedVariables false
namespace Go.AM
open Go.RowKit
section ops
variable {P:Program} {fo:Nat→FuncId} {B0:se} {w:World} {R:Rd} {φ:Pl} {H:List aa} {e:Tr} {a:Act}
theorem nF (hS:Kb fo B0 w R φ H) {t tx ty el:TypeId} {sz bytes:Nat} (hA:nJ P t tx el sz bytes) {ys:List PV} {vx:Value} {x:AV} (hx:Yb fo (K R φ H) x vx) (hy:Oe sz x=some ys)
 (hroomb:ys.length * bytes≤140737488355328) {hold:Yd} {v:AV} {H':List aa}
 (h:bm H hold sz ys=some (v,H')):jj fo B0 w R φ H P (Builtin.append_ #[t,tx] ty #[.slice none 0 0,vx]) v H':=by
 obtain⟨news,hl,hsrc,hey⟩:=sE (P:=P) hS hx hy
 obtain⟨dx,hux,hdx⟩:=hA.hx
 cases ys with
 |nil=>
  have hnews:news=[]:=List.eq_nil_of_length_eq_zero (by rw[hsrc.num];simp)
  subst hnews
  simp[bm] at h
  obtain⟨rfl,rfl⟩:=h
  exact vn.same _ hS (run_append_nil (ty:=ty) hA.hu hux hdx hA.Vo hsrc) (.atom _ _ (show Ea R _ _ from .qa))
 |cons y ys=>
  obtain⟨C,rest,w',hrun,hC,hrest,hheap,hos,htape,hout⟩:=run_append_grow (ty:=ty) (n0:=0) (cap:=0) (olds:=[]) (base:=none) hA.hu hux hdx hA.Vo hA.iD hA.pos hA.hzero hsrc (fun d=>by simp[Builtin.firstCells]) (by simp) (by simpa using hroomb)
  rw[jj,hrun]
  simp only[Nat.zero_add,List.nil_append] at hC hrest hheap ⊢
  have hfit:(news++rest).length=C * sz:=by
   rw[List.length_append,hsrc.num,hrest,←Nat.add_mul];congr 1;omega
  have:=Iw (fo:=fo) (B0:=B0) hS hl hsrc.one hA.pos' hey hfit (fun o _ h=>by omega) hheap hos htape hout
  cases hold with
  |lit=>simp only[bm,Option.some.injEq,Prod.mk.injEq] at h;obtain⟨rfl,rfl⟩:=h;exact this.1
  |uq=>simp only[bm,Option.some.injEq,Prod.mk.injEq] at h;obtain⟨rfl,rfl⟩:=h;exact this.2
  |own=>simp[bm] at h
theorem HQ (hS:Kb fo B0 w R φ H) {s d el:TypeId} {ds:TypeDesc} (hs:P.underlying s=some ds) (hd:P.underlying d=some (.slice el)) (he:P.underlying el=some (.int .u8)) {b:ByteArray}
 {hold:Yd} {v:AV} {H':List aa} (hfr:fresh H hold 1 false b.size (b.data.toList.map fun x=>AV.pv (.int .u8 x.toNat))=some (v,H')):
 jj fo B0 w R φ H P (convert s d (.string b)) v H':=by
 have hbl:b.data.toList.length=b.size:=by rw[Array.length_toList];rfl
 have hforced:(Question.appendCap b.size 0 el).forced=false:=rfl
 have hcap:b.size≤(Question.appendCap b.size 0 el).cut (w.tape w.drawn (.appendCap b.size 0 el)):=by simp only[Question.cut];omega
 have hch:(choose (.appendCap b.size 0 el)).run P w= .ok ((Question.appendCap b.size 0 el).cut (w.tape w.drawn (.appendCap b.size 0 el))) (wd w (w.drawn+1)):=by
  simp[hforced];rfl
 generalize (Question.appendCap b.size 0 el).cut (w.tape w.drawn (.appendCap b.size 0 el))=C at hch hcap
 have hvs:La fo (K R φ H) (b.data.toList.map fun x=>AV.pv (.int .u8 x.toNat)) (b.data.toList.map fun x=>Value.int .u8 x.toNat):=La.AS _ fun x _=> .atom _ _ (show Ea R _ _ from .int _ _)
 have h1:(b.data.toList.map fun x=>AV.pv (.int .u8 x.toNat)).all AV.one=true:=by
  rw[List.all_eq_true]
  intro x hx
  simp only[List.mem_map] at hx
  obtain⟨y,_,rfl⟩:=hx
  rfl
 have harr:(b.data.map fun x=>Value.int .u8 x.toNat)++Array.replicate (C - b.size) (Value.int .u8 0)=⟨(b.data.toList.map fun x=>Value.int .u8 x.toNat)++List.replicate (C - b.size) (Value.int .u8 0)⟩:=by
  apply Array.ext';simp
 have hlen:((b.data.toList.map fun x=>Value.int .u8 x.toNat)++List.replicate (C - b.size) (Value.int .u8 0)).length=C * 1:=by
  rw[List.length_append,List.length_map,hbl,List.length_replicate];omega
 have:=Dx (w':={wd w (w.drawn+1) with heap:=w.heap.push (.cells ⟨(b.data.toList.map fun x=>Value.int .u8 x.toNat)++List.replicate (C - b.size) (Value.int .u8 0)⟩ el (C,C+1))}) hS (rest:=List.replicate (C - b.size) (Value.int .u8 0)) hvs h1 (sz:=1) (n:=b.size) (cap:=C) (by omega)
  (by rw[List.length_map,hbl];omega) hlen (fun _=>rfl) (fun o ho h=>by rw[hlen] at ho;simp at h;omega) rfl rfl rfl rfl hfr
 have hrun:(convert s d (.string b)).run P w= .ok (.slice (some ⟨w.heap.size,0,none⟩) b.size C) {wd w (w.drawn+1) with heap:=w.heap.push (.cells ⟨(b.data.toList.map fun x=>Value.int .u8 x.toNat)++List.replicate (C - b.size) (Value.int .u8 0)⟩ el (C,C+1))}:=by
  have hshape:World.shape? {wd w (w.drawn+1) with heap:=w.heap.push (.cells ⟨(b.data.toList.map fun x=>Value.int .u8 x.toNat)++List.replicate (C - b.size) (Value.int .u8 0)⟩ el)} w.heap.size=some (el,C):=by
   simp[World.shape?];omega
  have hfreeze:World.freeze {wd w (w.drawn+1) with heap:=w.heap.push (.cells ⟨(b.data.toList.map fun x=>Value.int .u8 x.toNat)++List.replicate (C - b.size) (Value.int .u8 0)⟩ el)} ⟨w.heap.size,C,none⟩ 1=
   {wd w (w.drawn+1) with heap:=w.heap.push (.cells ⟨(b.data.toList.map fun x=>Value.int .u8 x.toNat)++List.replicate (C - b.size) (Value.int .u8 0)⟩ el (C,C+1))}:=by
   simp only[World.freeze]
   rw[if_neg (by omega)]
   congr 1
   apply Array.ext_getElem?
   intro i
   rw[Array.getElem?_modify,Array.getElem?_push,Array.getElem?_push]
   by_cases hi:i=w.heap.size
   ·subst hi;simp
   ·simp[hi,Ne.symm hi]
  have hconv:(Conv.stringToBytes el b).run P w= .ok (.slice (some ⟨w.heap.size,0,none⟩) b.size C) {wd w (w.drawn+1) with heap:=w.heap.push (.cells ⟨(b.data.toList.map fun x=>Value.int .u8 x.toNat)++List.replicate (C - b.size) (Value.int .u8 0)⟩ el (C,C+1))}:=by
   simp only[Conv.stringToBytes,Sem.run_bind,hch,Result.andThen_ok,newRow,harr,run_newObj,Sem.run_pure,markStringish,run_shape]
   rw[show (wd w (w.drawn+1)).heap=w.heap from rfl]
   simp only[hshape,run_freeze,Result.andThen_ok,hfreeze]
  cases ds <;> simp[convert,run_underlying hs,run_underlying hd,run_underlying he,hconv]
 rw[jj,hrun]
 exact this
theorem Jp {t:TypeId} {ag:Bool} {n off:Nat} {cs:Array Value} (ha:Wi P t=some ag) (hn:ag=true→Oc P t=some n) (hv:ag=false→∃ v,cs[off]? =some v):
 (part t cs off).run P w= .ok (if ag then .agg (cs.extract off (off+n)) else cs.getD off undef) w:=by
 cases ag with
 |true=>simp[part,bq ha,Ob (hn rfl)]
 |false=>
  obtain⟨v,hv⟩:=hv rfl
  simp[part,bq ha,hv,Array.getD_eq_getD_getElem?]
theorem BF (hS:Kb fo B0 w R φ H) {t:TypeId} {ag:Bool} {n off:Nat} {cs:List PV} {vs:List Value} (ha:Wi P t=some ag) (hn:ag=true→Oc P t=some n) (hl:xd R cs vs) {p:PV} (hp:Gk ag n cs off=some p):
 jj fo B0 w R φ H P (part t ⟨vs⟩ off) (.pv p) H:=by
 cases ag with
 |true=>
  simp only[Gk,if_true] at hp
  split at hp
  ·injection hp with hp;subst hp
   refine vn.same _ hS (Jp ha hn (fun h=>by cases h)) (.atom _ _ ?_)
   show Ea _ _ _
   have:(⟨vs⟩:Array Value).extract off (off+n)=⟨(vs.drop off).take n⟩:=by
    apply Array.ext';simp[List.extract_eq_take_drop]
   simp only[if_true,this]
   exact .agg _ _ ((hl.drop off).take n)
  ·cases hp
 |false=>
  simp only[Gk,Bool.false_eq_true,if_false] at hp
  obtain⟨v,hv,h2⟩:=hl.get hp
  refine vn.same v hS ?_ (.atom _ _ h2)
  rw[Jp (cs:=⟨vs⟩) ha hn (fun _=>⟨v,by simpa using hv⟩)]
  simp[Array.getD_eq_getD_getElem?,hv]
theorem KG (hS:Kb fo B0 w R φ H) {t:TypeId} {ag:Bool} {n off:Nat} {cs:List AV} {vs:List Value} (ha:Wi P t=some ag) (hn:ag=true→Oc P t=some n) (hl:La fo (K R φ H) cs vs) {p:AV} (hp:ng ag n cs off=some p):
 jj fo B0 w R φ H P (part t ⟨vs⟩ off) p H:=by
 cases ag with
 |true=>
  simp only[ng,if_true] at hp
  split at hp
  ·injection hp with hp;subst hp
   refine vn.same _ hS (Jp ha hn (fun h=>by cases h)) ?_
   have:(⟨vs⟩:Array Value).extract off (off+n)=⟨(vs.drop off).take n⟩:=by
    apply Array.ext';simp[List.extract_eq_take_drop]
   simp only[if_true,this]
   exact Ro ((hl.drop off).take n)
  ·cases hp
 |false=>
  simp only[ng,Bool.false_eq_true,if_false] at hp
  obtain⟨v,hv,h2⟩:=hl.get hp
  refine vn.same v hS ?_ h2
  rw[Jp (cs:=⟨vs⟩) ha hn (fun _=>⟨v,by simpa using hv⟩)]
  simp[Array.getD_eq_getD_getElem?,hv]
theorem kJ {x:AV} {vx:Value} (hx:Yb fo (K R φ H) x vx):(∀ cs,x= .pv (.agg cs)→∃ vs,vx= .agg ⟨vs⟩∧xd R cs vs)∧(∀ cs,x= .agg cs→∃ vs,vx= .agg ⟨vs⟩∧La fo (K R φ H) cs vs):=by
 constructor
 ·rintro cs rfl
  have:=hx.qb
  cases this with | agg _ vs h=>exact⟨vs,rfl,h⟩
 ·rintro cs rfl
  cases hx with
  |atom _ _ h=>exact h.elim
  |agg _ vs h=>exact⟨vs,rfl,h⟩
theorem OP {x:AV} {vx:Value} (hx:Yb fo (K R φ H) x vx):(∀ cs,x= .pv (.bc cs)→∃ vs,vx= .tuple ⟨vs⟩∧xd R cs vs)∧(∀ cs,x= .bc cs→∃ vs,vx= .tuple ⟨vs⟩∧La fo (K R φ H) cs vs):=by
 constructor
 ·rintro cs rfl
  have:=hx.qb
  cases this with | bc _ vs h=>exact⟨vs,rfl,h⟩
 ·rintro cs rfl
  cases hx with
  |atom _ _ h=>exact h.elim
  |bc _ vs h=>exact⟨vs,rfl,h⟩
theorem LF (mx:Bool):∀ {xs:List AV} {vs:List Value} {k:IntKind} {x:Int} {p:PV},La fo (K R φ H) xs vs→zd mx k x xs=some p→∃ v,(vs.foldlM (if mx then Builtin.max2 else Builtin.min2) (.int k x)).run P w= .ok v w∧Ea R p v
 | [],_,k,x,p,h,hb=>by
   cases h
   simp[zd] at hb;subst hb
   exact⟨.int k x,by simp,.int _ _⟩
 | .pv (.int k' y)::xs,_,k,x,p,h,hb=>by
   cases h with
   |cons _ _ v vs h1 h2=>
    rw[Vc h1 rfl]
    simp only[zd] at hb
    obtain⟨u,q1,q2⟩:=LF mx h2 hb
    refine⟨u,?_,q2⟩
    rw[← q1]
    cases mx <;> simp[List.foldlM_cons,Builtin.max2,Builtin.min2]
 | .pv (.bool _)::_,_,_,_,_,_,hb=>by simp[zd] at hb
 | .pv (.str _)::_,_,_,_,_,_,hb=>by simp[zd] at hb
 | .pv .yd::_,_,_,_,_,_,hb=>by simp[zd] at hb
 | .pv .qa::_,_,_,_,_,_,hb=>by simp[zd] at hb
 | .pv .pq::_,_,_,_,_,_,hb=>by simp[zd] at hb
 | .pv .Vp::_,_,_,_,_,_,hb=>by simp[zd] at hb
 | .pv .Mv::_,_,_,_,_,_,hb=>by simp[zd] at hb
 | .pv (.rp _ _)::_,_,_,_,_,_,hb=>by simp[zd] at hb
 | .pv (.lit _ _)::_,_,_,_,_,_,hb=>by simp[zd] at hb
 | .pv (.agg _)::_,_,_,_,_,_,hb=>by simp[zd] at hb
 | .pv (.bc _)::_,_,_,_,_,_,hb=>by simp[zd] at hb
 | .pv (.iface _ _)::_,_,_,_,_,_,hb=>by simp[zd] at hb
 | .ptr _ _::_,_,_,_,_,_,hb=>by simp[zd] at hb
 | .ic _ _ _::_,_,_,_,_,_,hb=>by simp[zd] at hb
 | .uq _ _ _ _::_,_,_,_,_,_,hb=>by simp[zd] at hb
 | .own _ _::_,_,_,_,_,_,hb=>by simp[zd] at hb
 | .mi _ _::_,_,_,_,_,_,hb=>by simp[zd] at hb
 | .mp _::_,_,_,_,_,_,hb=>by simp[zd] at hb
 | .agg _::_,_,_,_,_,_,hb=>by simp[zd] at hb
 | .bc _::_,_,_,_,_,_,hb=>by simp[zd] at hb
 | .undef::_,_,_,_,_,_,hb=>by simp[zd] at hb
end ops
end Go.AM
