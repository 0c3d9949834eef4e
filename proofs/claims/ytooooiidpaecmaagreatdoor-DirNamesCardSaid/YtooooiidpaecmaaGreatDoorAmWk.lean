import Derived.Test.YtooooiidpaecmaaGreatDoorAmZb
import Derived.Test.YtooooiidpaecmaaGreatDoorAmZg
/- The abstract machine: what comes of code, as it is computed by rewriting alone (GO: operations, GT: with a trace, GX: code). -/
namespace Go.Am
open Go Go.RowKit
section
variable {P:Program} {T:Tb}
def GO(P:Program)(T:Tb):List CO→(Fr→M→Prop)→Fr→M→Prop
 | [],Q,fr,m=>Q fr m
 | .op d none o::l,Q,fr,m=>match run o fr m with
  |some (v,m1)=>GO P T l Q (l5 d v fr) m1
  |none=>False
 | .op d (some (t,w)) o::l,Q,fr,m=>match D9 w (ev (.tmp t) fr) with
  |some true=>match run o fr m with
   |some (v,m1)=>GO P T l Q (l5 d v fr) m1
   |none=>False
  |some false=>GO P T l Q (l5 d AV.undef fr) m
  |none=>False
 | .call d none f args::l,Q,fr,m=>match ev f fr with
  | .func g caps=>WpF P T g (evs args fr++caps) m fun v m1=>GO P T l Q (l5 d v fr) m1
  | .yield y=>WpY P T y (evs args fr) m fun v m1=>GO P T l Q (l5 d v fr) m1
  | .bnd g first=>WpF P T g (first++evs args fr) m fun v m1=>GO P T l Q (l5 d v fr) m1
  |_=>False
 | .call d (some (t,w)) f args::l,Q,fr,m=>match D9 w (ev (.tmp t) fr) with
  |some true=>match f with
   | .cst (.func g [])=>WpF P T g (evs args fr) m fun v m1=>GO P T l Q (l5 d v fr) m1
   |_=>False
  |some false=>match f with
   | .cst (.func _ [])=>GO P T l Q (l5 d AV.undef fr) m
   |_=>False
  |none=>False
def GN(P:Program)(T:Tb)(r:R)(d:Option (List Bool))(l:List CO)(Q:Fr→M→Prop)(fr:Fr):Prop:=match r with
 |some (v,m1)=>GO P T l Q (l5 d v fr) m1
 |none=>False
def GG(P:Program)(T:Tb)(w:Option Bool)(o:OP)(d:Option (List Bool))(l:List CO)(Q:Fr→M→Prop)(fr:Fr)(m:M):Prop:=match w with
 |some true=>GN P T (run o fr m) d l Q fr
 |some false=>GO P T l Q (l5 d AV.undef fr) m
 |none=>False
def CK(P:Program)(T:Tb)(d:Option (List Bool))(l:List CO)(Q:Fr→M→Prop)(fr:Fr)(v:AV)(m:M):Prop:=GO P T l Q (l5 d v fr) m
def GF(P:Program)(T:Tb)(f:AV)(args:List AV)(d:Option (List Bool))(l:List CO)(Q:Fr→M→Prop)(fr:Fr)(m:M):Prop:=match f with
 | .func g caps=>WpF P T g (args++caps) m (CK P T d l Q fr)
 | .yield y=>WpY P T y args m (CK P T d l Q fr)
 | .bnd g first=>WpF P T g (first++args) m (CK P T d l Q fr)
 |_=>False
def GFG(P:Program)(T:Tb)(w:Option Bool)(g:FuncId)(args:List AV)(d:Option (List Bool))(l:List CO)(Q:Fr→M→Prop)(fr:Fr)(m:M):Prop:=match w with
 |some true=>WpF P T g args m (CK P T d l Q fr)
 |some false=>GO P T l Q (l5 d AV.undef fr) m
 |none=>False
theorem a6u{Q:Fr→M→Prop}{fr:Fr}{m:M}:GO P T [] Q fr m=Q fr m:=rfl
theorem b3s{d:Option (List Bool)}{o:OP}{l:List CO}{Q:Fr→M→Prop}{fr:Fr}{m:M}:GO P T (.op d none o::l) Q fr m=GN P T (run o fr m) d l Q fr:=rfl
theorem e2m{d:Option (List Bool)}{t:Nat}{w:Bool}{o:OP}{l:List CO}{Q:Fr→M→Prop}{fr:Fr}{m:M}:GO P T (.op d (some (pth t,w)) o::l) Q fr m=GG P T (D9 w (ev (tm t) fr)) o d l Q fr m:=rfl
theorem c5Q{d:Option (List Bool)}{f:RO}{args:List RO}{l:List CO}{Q:Fr→M→Prop}{fr:Fr}{m:M}:GO P T (.call d none f args::l) Q fr m=GF P T (ev f fr) (evs args fr) d l Q fr m:=rfl
theorem c0d{d:Option (List Bool)}{t:Nat}{w:Bool}{g:FuncId}{args:List RO}{l:List CO}{Q:Fr→M→Prop}{fr:Fr}{m:M}:GO P T (.call d (some (pth t,w)) (.cst (.func g [])) args::l) Q fr m=GFG P T (D9 w (ev (tm t) fr)) g (evs args fr) d l Q fr m:=rfl
theorem a91{v:AV}{m1:M}{d:Option (List Bool)}{l:List CO}{Q:Fr→M→Prop}{fr:Fr}:GN P T (some (v,m1)) d l Q fr=GO P T l Q (l5 d v fr) m1:=rfl
theorem c4m{o:OP}{d:Option (List Bool)}{l:List CO}{Q:Fr→M→Prop}{fr:Fr}{m:M}:GG P T (some true) o d l Q fr m=GN P T (run o fr m) d l Q fr:=rfl
theorem c0o{o:OP}{d:Option (List Bool)}{l:List CO}{Q:Fr→M→Prop}{fr:Fr}{m:M}:GG P T (some false) o d l Q fr m=GO P T l Q (l5 d AV.undef fr) m:=rfl
theorem c9Z{g:FuncId}{caps args:List AV}{d:Option (List Bool)}{l:List CO}{Q:Fr→M→Prop}{fr:Fr}{m:M}:GF P T (.func g caps) args d l Q fr m=WpF P T g (args++caps) m (CK P T d l Q fr):=rfl
theorem d8R{g:FuncId}{first args:List AV}{d:Option (List Bool)}{l:List CO}{Q:Fr→M→Prop}{fr:Fr}{m:M}:GF P T (.bnd g first) args d l Q fr m=WpF P T g (first++args) m (CK P T d l Q fr):=rfl
theorem f0d(g:FuncId)(l:List RO)(fr:Fr)(m:M):run (.bfn g l) fr m=some (.bnd g (evs l fr),m):=rfl
theorem b9v{y:Nat}{args:List AV}{d:Option (List Bool)}{l:List CO}{Q:Fr→M→Prop}{fr:Fr}{m:M}:GF P T (.yield y) args d l Q fr m=WpY P T y args m (CK P T d l Q fr):=rfl
theorem b9w{g:FuncId}{args:List AV}{d:Option (List Bool)}{l:List CO}{Q:Fr→M→Prop}{fr:Fr}{m:M}:GFG P T (some true) g args d l Q fr m=WpF P T g args m (CK P T d l Q fr):=rfl
theorem b8B{g:FuncId}{args:List AV}{d:Option (List Bool)}{l:List CO}{Q:Fr→M→Prop}{fr:Fr}{m:M}:GFG P T (some false) g args d l Q fr m=GO P T l Q (l5 d AV.undef fr) m:=rfl
theorem a5R{d:Option (List Bool)}{l:List CO}{Q:Fr→M→Prop}{fr:Fr}{v:AV}{m:M}:CK P T d l Q fr v m=GO P T l Q (l5 d v fr) m:=rfl
theorem g3b{d:Option (List Bool)}{f:RO}{g:FuncId}{first:List AV}{args:List RO}{l:List CO}{Q:Fr→M→Prop}{fr:Fr}{m:M}(hf:ev f fr= .bnd g first)(h:WpOC P T g (first++evs args fr) m d l fr Q):WpO P T (.call d none f args::l) fr m Q:=by
 have e:∀n,B9 (cfN P T n) (.call d none f args::l) fr m=K9 d (B9 (cfN P T n) l) fr (J8 (cfN P T n) (ev f fr) (evs args fr) m):=fun n=>rfl
 unfold WpO
 simp only[e,hf]
 exact h
theorem U8:∀{l:List CO} {Q:Fr→M→Prop} {fr:Fr} {m:M},GO P T l Q fr m→WpO P T l fr m Q
 | [],Q,fr,m,h=>by rw[f9R];exact h
 | .op d none o::l,Q,fr,m,h=>by
  rw[g3M]
  have h:GN P T (run o fr m) d l Q fr:=h
  unfold GN at h
  unfold b31
  split at h
  ·rename_i v m1 e
   rw[e]
   exact U8 h
  ·exact h.elim
 | .op d (some (t,w)) o::l,Q,fr,m,h=>by
  have e:∀n,B9 (cfN P T n) (.op d (some (t,w)) o::l) fr m=ob (D9 w (ev (.tmp t) fr)) fun t=>bc t (K9 d (B9 (cfN P T n) l) fr (run o fr m)) (B9 (cfN P T n) l (l5 d AV.undef fr) m):=fun n=>rfl
  have h:GG P T (D9 w (ev (.tmp t) fr)) o d l Q fr m:=h
  unfold GG at h
  split at h
  ·rename_i e1
   unfold GN at h
   split at h
   ·rename_i v m1 e2
    obtain⟨N,f,m',h1,h2⟩:=U8 h
    refine⟨N,f,m',fun n hn=> ?_,h2⟩
    rw[e,e1,e2]
    exact h1 n hn
   ·exact h.elim
  ·rename_i e1
   obtain⟨N,f,m',h1,h2⟩:=U8 h
   refine⟨N,f,m',fun n hn=> ?_,h2⟩
   rw[e,e1]
   exact h1 n hn
  ·exact h.elim
 | .call d none f args::l,Q,fr,m,h=>by
  have h:GF P T (ev f fr) (evs args fr) d l Q fr m:=h
  unfold GF at h
  split at h
  ·rename_i g caps e1
   exact g2Q e1 (WpOC.to (h.mono fun v m1 h=>U8 h))
  ·rename_i y e1
   obtain⟨N,v,m1,h1,h2⟩:=h
   exact g2M e1 ⟨N,v,m1,h1,U8 h2⟩
  ·rename_i g first e1
   exact g3b e1 (WpOC.to (h.mono fun v m1 h=>U8 h))
  ·exact h.elim
 | .call d (some (t,w)) f args::l,Q,fr,m,h=>by
  have h:(match(generalizing:=false) D9 w (ev (.tmp t) fr) with
   |some true=>match(generalizing:=false) f with
    | .cst (.func g [])=>WpF P T g (evs args fr) m fun v m1=>GO P T l Q (l5 d v fr) m1
    |_=>False
   |some false=>match(generalizing:=false) f with
    | .cst (.func _ [])=>GO P T l Q (l5 d AV.undef fr) m
    |_=>False
   |none=>False):=h
  have e:∀g n,B9 (cfN P T n) (.call d (some (t,w)) (.cst (.func g [])) args::l) fr m=ob (D9 w (ev (.tmp t) fr)) fun t=>bc t (K9 d (B9 (cfN P T n) l) fr (G7 P T (l8 P T n) g (evs args fr++ []) m)) (B9 (cfN P T n) l (l5 d AV.undef fr) m):=fun g n=>rfl
  split at h
  ·rename_i e1
   split at h
   ·rename_i g
    obtain⟨N,v,m1,h1,h2⟩:=h
    obtain⟨N2,f,m',h3,h4⟩:=U8 h2
    refine⟨max N N2,f,m',fun n hn=> ?_,h4⟩
    rw[e,e1,List.append_nil,h1 n (by omega)]
    exact h3 n (by omega)
   ·exact h.elim
  ·rename_i e1
   split at h
   ·rename_i g
    obtain⟨N,f,m',h1,h2⟩:=U8 h
    refine⟨N,f,m',fun n hn=> ?_,h2⟩
    rw[e,e1]
    exact h1 n hn
   ·exact h.elim
  ·exact h.elim
def GT(P:Program)(T:Tb):List CO→(List T3→Prop)→List T3→Fr→M→Prop
 | [],Q,H,fr,m=>Q (H++ [⟨fr,m,AV.undef⟩])
 | .op d none o::l,Q,H,fr,m=>match run o fr m with
  |some (v,m1)=>GT P T l Q (H++ [⟨fr,m,v⟩]) (l5 d v fr) m1
  |none=>False
 | .op d (some (t,w)) o::l,Q,H,fr,m=>match D9 w (ev (.tmp t) fr) with
  |some true=>match run o fr m with
   |some (v,m1)=>GT P T l Q (H++ [⟨fr,m,v⟩]) (l5 d v fr) m1
   |none=>False
  |some false=>GT P T l Q (H++ [⟨fr,m,AV.undef⟩]) (l5 d AV.undef fr) m
  |none=>False
 | .call d none f args::l,Q,H,fr,m=>match ev f fr with
  | .func g caps=>WpF P T g (evs args fr++caps) m fun v m1=>GT P T l Q (H++ [⟨fr,m,v⟩]) (l5 d v fr) m1
  |_=>False
 | .call d (some (t,w)) f args::l,Q,H,fr,m=>match D9 w (ev (.tmp t) fr) with
  |some true=>match f with
   | .cst (.func g [])=>WpF P T g (evs args fr) m fun v m1=>GT P T l Q (H++ [⟨fr,m,v⟩]) (l5 d v fr) m1
   | .tmp p=>match ev (.tmp p) fr with
    | .func g caps=>WpF P T g (evs args fr++caps) m fun v m1=>GT P T l Q (H++ [⟨fr,m,v⟩]) (l5 d v fr) m1
    |_=>False
   |_=>False
  |some false=>match f with
   | .cst (.func _ [])=>GT P T l Q (H++ [⟨fr,m,AV.undef⟩]) (l5 d AV.undef fr) m
   | .tmp _=>GT P T l Q (H++ [⟨fr,m,AV.undef⟩]) (l5 d AV.undef fr) m
   |_=>False
  |none=>False
def TN(P:Program)(T:Tb)(r:R)(d:Option (List Bool))(l:List CO)(Q:List T3→Prop)(H:List T3)(fr:Fr)(m:M):Prop:=match r with
 |some (v,m1)=>GT P T l Q (H++ [⟨fr,m,v⟩]) (l5 d v fr) m1
 |none=>False
def TG(P:Program)(T:Tb)(w:Option Bool)(o:OP)(d:Option (List Bool))(l:List CO)(Q:List T3→Prop)(H:List T3)(fr:Fr)(m:M):Prop:=match w with
 |some true=>TN P T (run o fr m) d l Q H fr m
 |some false=>GT P T l Q (H++ [⟨fr,m,AV.undef⟩]) (l5 d AV.undef fr) m
 |none=>False
def TK(P:Program)(T:Tb)(d:Option (List Bool))(l:List CO)(Q:List T3→Prop)(H:List T3)(fr:Fr)(m:M)(v:AV)(m1:M):Prop:=GT P T l Q (H++ [⟨fr,m,v⟩]) (l5 d v fr) m1
def TFG(P:Program)(T:Tb)(w:Option Bool)(g:FuncId)(args:List AV)(d:Option (List Bool))(l:List CO)(Q:List T3→Prop)(H:List T3)(fr:Fr)(m:M):Prop:=match w with
 |some true=>WpF P T g args m (TK P T d l Q H fr m)
 |some false=>GT P T l Q (H++ [⟨fr,m,AV.undef⟩]) (l5 d AV.undef fr) m
 |none=>False
def TF(P:Program)(T:Tb)(f:AV)(args:List AV)(d:Option (List Bool))(l:List CO)(Q:List T3→Prop)(H:List T3)(fr:Fr)(m:M):Prop:=match f with
 | .func g caps=>WpF P T g (args++caps) m (TK P T d l Q H fr m)
 |_=>False
def TFT(P:Program)(T:Tb)(w:Option Bool)(f:AV)(args:List AV)(d:Option (List Bool))(l:List CO)(Q:List T3→Prop)(H:List T3)(fr:Fr)(m:M):Prop:=match w with
 |some true=>TF P T f args d l Q H fr m
 |some false=>GT P T l Q (H++ [⟨fr,m,AV.undef⟩]) (l5 d AV.undef fr) m
 |none=>False
theorem c0n{d:Option (List Bool)}{t p:Nat}{w:Bool}{args:List RO}{l:List CO}{Q:List T3→Prop}{H:List T3}{fr:Fr}{m:M}:GT P T (.call d (some (pth t,w)) (tm p) args::l) Q H fr m=TFT P T (D9 w (ev (tm t) fr)) (ev (tm p) fr) (evs args fr) d l Q H fr m:=rfl
theorem b9S{f:AV}{args:List AV}{d:Option (List Bool)}{l:List CO}{Q:List T3→Prop}{H:List T3}{fr:Fr}{m:M}:TFT P T (some true) f args d l Q H fr m=TF P T f args d l Q H fr m:=rfl
theorem b8G{f:AV}{args:List AV}{d:Option (List Bool)}{l:List CO}{Q:List T3→Prop}{H:List T3}{fr:Fr}{m:M}:TFT P T (some false) f args d l Q H fr m=GT P T l Q (H++ [⟨fr,m,AV.undef⟩]) (l5 d AV.undef fr) m:=rfl
theorem c0C{g:FuncId}{caps args:List AV}{d:Option (List Bool)}{l:List CO}{Q:List T3→Prop}{H:List T3}{fr:Fr}{m:M}:TF P T (.func g caps) args d l Q H fr m=WpF P T g (args++caps) m (TK P T d l Q H fr m):=rfl
theorem d4k{Q:List T3→Prop}{H:List T3}{fr:Fr}{m:M}:GT P T [] Q H fr m=Q (H++ [⟨fr,m,AV.undef⟩]):=rfl
theorem f0S{d:Option (List Bool)}{o:OP}{l:List CO}{Q:List T3→Prop}{H:List T3}{fr:Fr}{m:M}:GT P T (.op d none o::l) Q H fr m=TN P T (run o fr m) d l Q H fr m:=rfl
theorem e1a{d:Option (List Bool)}{t:Nat}{w:Bool}{o:OP}{l:List CO}{Q:List T3→Prop}{H:List T3}{fr:Fr}{m:M}:GT P T (.op d (some (pth t,w)) o::l) Q H fr m=TG P T (D9 w (ev (tm t) fr)) o d l Q H fr m:=rfl
theorem c6I{d:Option (List Bool)}{f:RO}{args:List RO}{l:List CO}{Q:List T3→Prop}{H:List T3}{fr:Fr}{m:M}:GT P T (.call d none f args::l) Q H fr m=TF P T (ev f fr) (evs args fr) d l Q H fr m:=rfl
theorem c0a{d:Option (List Bool)}{t:Nat}{w:Bool}{g:FuncId}{args:List RO}{l:List CO}{Q:List T3→Prop}{H:List T3}{fr:Fr}{m:M}:GT P T (.call d (some (pth t,w)) (.cst (.func g [])) args::l) Q H fr m=TFG P T (D9 w (ev (tm t) fr)) g (evs args fr) d l Q H fr m:=rfl
theorem d2h{v:AV}{m1:M}{d:Option (List Bool)}{l:List CO}{Q:List T3→Prop}{H:List T3}{fr:Fr}{m:M}:TN P T (some (v,m1)) d l Q H fr m=GT P T l Q (H++ [⟨fr,m,v⟩]) (l5 d v fr) m1:=rfl
theorem c1f{o:OP}{d:Option (List Bool)}{l:List CO}{Q:List T3→Prop}{H:List T3}{fr:Fr}{m:M}:TG P T (some true) o d l Q H fr m=TN P T (run o fr m) d l Q H fr m:=rfl
theorem b9J{o:OP}{d:Option (List Bool)}{l:List CO}{Q:List T3→Prop}{H:List T3}{fr:Fr}{m:M}:TG P T (some false) o d l Q H fr m=GT P T l Q (H++ [⟨fr,m,AV.undef⟩]) (l5 d AV.undef fr) m:=rfl
theorem b9T{g:FuncId}{args:List AV}{d:Option (List Bool)}{l:List CO}{Q:List T3→Prop}{H:List T3}{fr:Fr}{m:M}:TFG P T (some true) g args d l Q H fr m=WpF P T g args m (TK P T d l Q H fr m):=rfl
theorem b86{g:FuncId}{args:List AV}{d:Option (List Bool)}{l:List CO}{Q:List T3→Prop}{H:List T3}{fr:Fr}{m:M}:TFG P T (some false) g args d l Q H fr m=GT P T l Q (H++ [⟨fr,m,AV.undef⟩]) (l5 d AV.undef fr) m:=rfl
theorem d7E{d:Option (List Bool)}{l:List CO}{Q:List T3→Prop}{H:List T3}{fr:Fr}{m m1:M}{v:AV}:TK P T d l Q H fr m v m1=GT P T l Q (H++ [⟨fr,m,v⟩]) (l5 d v fr) m1:=rfl
theorem V9:∀{l:List CO} {Q:List T3→Prop} {H:List T3} {fr:Fr} {m:M},GT P T l Q H fr m→WpT P T l fr m H Q
 | [],Q,H,fr,m,h=>by rw[g0u];exact h
 | .op d none o::l,Q,H,fr,m,h=>by
  rw[g3N]
  have h:TN P T (run o fr m) d l Q H fr m:=h
  unfold TN at h
  unfold b4l
  split at h
  ·rename_i v m1 e
   rw[e]
   exact V9 h
  ·exact h.elim
 | .op d (some (t,w)) o::l,Q,H,fr,m,h=>by
  have e:∀n,trO (cfN P T n) (.op d (some (t,w)) o::l) fr m=ob (ob (D9 w (ev (.tmp t) fr)) fun t=>bc t (run o fr m) (some (AV.undef,m))) fun q=>ob (trO (cfN P T n) l (l5 d q.1 fr) q.2) fun t=>some (⟨fr,m,q.1⟩::t):=fun n=>rfl
  have h:TG P T (D9 w (ev (.tmp t) fr)) o d l Q H fr m:=h
  unfold TG at h
  unfold WpT
  simp only[e]
  split at h
  ·rename_i e1
   unfold TN at h
   split at h
   ·rename_i v m1 e2
    rw[e1]
    simp only[ob,l9,e2]
    exact a3r.2 (V9 h)
   ·exact h.elim
  ·rename_i e1
   rw[e1]
   simp only[ob,u7]
   exact a3r.2 (V9 h)
  ·exact h.elim
 | .call d none f args::l,Q,H,fr,m,h=>by
  have e:∀n,trO (cfN P T n) (.call d none f args::l) fr m=ob (J8 (cfN P T n) (ev f fr) (evs args fr) m) fun q=>ob (trO (cfN P T n) l (l5 d q.1 fr) q.2) fun t=>some (⟨fr,m,q.1⟩::t):=fun n=>rfl
  have h:TF P T (ev f fr) (evs args fr) d l Q H fr m:=h
  unfold TF at h
  unfold WpT
  simp only[e]
  split at h
  ·rename_i g caps e1
   obtain⟨N,v,m1,h1,h2⟩:=h
   obtain⟨N2,t,h3,h4⟩:=V9 (show GT P T l Q (H++ [⟨fr,m,v⟩]) (l5 d v fr) m1 from h2)
   refine⟨max N N2,⟨fr,m,v⟩::t,fun n hn=> ?_,by simpa using h4⟩
   rw[e1]
   show(ob (G7 P T (l8 P T n) g (evs args fr++caps) m) _)=_
   rw[h1 n (by omega)]
   show(ob (trO (cfN P T n) l (l5 d v fr) m1) _)=_
   rw[h3 n (by omega)];rfl
  ·exact h.elim
 | .call d (some (t,w)) f args::l,Q,H,fr,m,h=>by
  have h:(match(generalizing:=false) D9 w (ev (.tmp t) fr) with
   |some true=>match(generalizing:=false) f with
    | .cst (.func g [])=>WpF P T g (evs args fr) m fun v m1=>GT P T l Q (H++ [⟨fr,m,v⟩]) (l5 d v fr) m1
    | .tmp p=>match(generalizing:=false) ev (.tmp p) fr with
     | .func g caps=>WpF P T g (evs args fr++caps) m fun v m1=>GT P T l Q (H++ [⟨fr,m,v⟩]) (l5 d v fr) m1
     |_=>False
    |_=>False
   |some false=>match(generalizing:=false) f with
    | .cst (.func _ [])=>GT P T l Q (H++ [⟨fr,m,AV.undef⟩]) (l5 d AV.undef fr) m
    | .tmp _=>GT P T l Q (H++ [⟨fr,m,AV.undef⟩]) (l5 d AV.undef fr) m
    |_=>False
   |none=>False):=h
  have e:∀g n,trO (cfN P T n) (.call d (some (t,w)) (.cst (.func g [])) args::l) fr m=ob (ob (D9 w (ev (.tmp t) fr)) fun t=>bc t (G7 P T (l8 P T n) g (evs args fr++ []) m) (some (AV.undef,m))) fun q=>ob (trO (cfN P T n) l (l5 d q.1 fr) q.2) fun t=>some (⟨fr,m,q.1⟩::t):=fun g n=>rfl
  have e':∀p n,trO (cfN P T n) (.call d (some (t,w)) (.tmp p) args::l) fr m=ob (ob (D9 w (ev (.tmp t) fr)) fun t=>bc t (J8 (cfN P T n) (ev (.tmp p) fr) (evs args fr) m) (some (AV.undef,m))) fun q=>ob (trO (cfN P T n) l (l5 d q.1 fr) q.2) fun t=>some (⟨fr,m,q.1⟩::t):=fun p n=>rfl
  split at h
  ·rename_i e1
   split at h
   ·rename_i g
    have:=WpTC.to (d:=d) (l:=l) (fr:=fr) (H:=H) (Q:=Q) (h.mono fun v m1 h=>V9 h)
    obtain⟨N,t',h1,h2⟩:=this
    refine⟨N,t',fun n hn=> ?_,h2⟩
    rw[e,e1,List.append_nil]
    exact h1 n hn
   ·rename_i p
    split at h
    ·rename_i g caps e2
     have:=WpTC.to (d:=d) (l:=l) (fr:=fr) (H:=H) (Q:=Q) (h.mono fun v m1 h=>V9 h)
     obtain⟨N,t',h1,h2⟩:=this
     refine⟨N,t',fun n hn=> ?_,h2⟩
     rw[e',e1,e2]
     exact h1 n hn
    ·exact h.elim
   ·exact h.elim
  ·rename_i e1
   split at h
   ·rename_i g
    unfold WpT
    simp only[e,e1]
    simp only[ob,u7]
    exact a3r.2 (V9 h)
   ·rename_i p
    unfold WpT
    simp only[e',e1]
    simp only[ob,u7]
    exact a3r.2 (V9 h)
   ·exact h.elim
  ·exact h.elim
def GX(P:Program)(T:Tb):CC→(X→Fr→M→Prop)→Fr→M→Prop
 | .skip,Q,fr,m=>Q .normal fr m
 | .reg l,Q,fr,m=>GO P T l (Q .normal) fr m
 | .drawn l ps,Q,fr,m=>GT P T l (fun t=>ps.all (Z6 l t)=true∧∃a,L9 t=some a∧Q .normal a.fr a.m) [] fr m
 | .seq a b,Q,fr,m=>GX P T a (fun x fr1 m1=>match x with| .normal=>GX P T b Q fr1 m1|x=>Q x fr1 m1) fr m
 | .cond c a b,Q,fr,m=>match ev c fr with
  | .b true=>GX P T a Q fr m
  | .b false=>GX P T b Q fr m
  |_=>False
 | .block id b,Q,fr,m=>GX P T b (fun x fr1 m1=>match x with| .exit i=>(match Nat.beq i id with|true=>Q .normal fr1 m1|false=>Q (.exit i) fr1 m1)|x=>Q x fr1 m1) fr m
 | .exit id,Q,fr,m=>Q (.exit id) fr m
 | .ret,Q,fr,m=>Q .ret fr m
 | .goto l,Q,fr,m=>Q (.goto l) fr m
 | .loop b,Q,fr,m=>WpC P T (.loop b) fr m Q
 | .scope b,Q,fr,m=>WpC P T (.scope b) fr m Q
 | .bad,_,_,_=>False
def RK(Q:X→Fr→M→Prop)(fr:Fr)(m:M):Prop:=Q .normal fr m
def DK(l:List CO)(ps:List (Nat×Nat))(Q:X→Fr→M→Prop)(t:List T3):Prop:=ps.all (Z6 l t)=true∧∃a,L9 t=some a∧Q .normal a.fr a.m
def SK(P:Program)(T:Tb)(b:CC)(Q:X→Fr→M→Prop)(x:X)(fr:Fr)(m:M):Prop:=match x with| .normal=>GX P T b Q fr m|x=>Q x fr m
def GC(P:Program)(T:Tb)(v:AV)(a b:CC)(Q:X→Fr→M→Prop)(fr:Fr)(m:M):Prop:=match v with
 | .b true=>GX P T a Q fr m
 | .b false=>GX P T b Q fr m
 |_=>False
def BE(Q:X→Fr→M→Prop)(c:Bool)(i:Nat)(fr:Fr)(m:M):Prop:=match c with|true=>Q .normal fr m|false=>Q (.exit i) fr m
def BK(id:Nat)(Q:X→Fr→M→Prop)(x:X)(fr:Fr)(m:M):Prop:=match x with| .exit i=>(match Nat.beq i id with|true=>Q .normal fr m|false=>Q (.exit i) fr m)|x=>Q x fr m
def LK(Inv:Nat→Fr→M→Prop)(k:Nat)(Q:X→Fr→M→Prop)(x:X)(fr:Fr)(m:M):Prop:=match x with| .normal=>∃k',k'<k∧Inv k' fr m|x=>Q x fr m
def FK(P:Program)(rs:List ResultVar)(Q:AV→M→Prop)(x:X)(fr:Fr)(m:M):Prop:=(x= .normal∨x= .ret)∧∃l,E3 P ⟨fr,m,[],none⟩ rs=some l∧Q (one l) m
variable {Q:X→Fr→M→Prop} {fr:Fr} {m:M}
theorem c47:GX P T .skip Q fr m=Q .normal fr m:=rfl
theorem b3a{l:List CO}:GX P T (.reg l) Q fr m=GO P T l (RK Q) fr m:=rfl
theorem b93{l:List CO}{ps:List (Nat×Nat)}:GX P T (.drawn l ps) Q fr m=GT P T l (DK l ps Q) [] fr m:=rfl
theorem d5k{a b:CC}:GX P T (.seq a b) Q fr m=GX P T a (SK P T b Q) fr m:=rfl
theorem c82{c:RO}{a b:CC}:GX P T (.cond c a b) Q fr m=GC P T (ev c fr) a b Q fr m:=rfl
theorem b9C{id:Nat}{b:CC}:GX P T (.block id b) Q fr m=GX P T b (BK id Q) fr m:=rfl
theorem c3f{id:Nat}:GX P T (.exit id) Q fr m=Q (.exit id) fr m:=rfl
theorem d93:GX P T .ret Q fr m=Q .ret fr m:=rfl
theorem d2e{l:Nat}:GX P T (.goto l) Q fr m=Q (.goto l) fr m:=rfl
theorem a5K:RK Q fr m=Q .normal fr m:=rfl
theorem d8y{l:List CO}{ps:List (Nat×Nat)}{t:List T3}:DK l ps Q t=(ps.all (Z6 l t)=true∧∃a,L9 t=some a∧Q .normal a.fr a.m):=rfl
theorem b82{b:CC}:SK P T b Q .normal fr m=GX P T b Q fr m:=rfl
theorem a5X{b:CC}:SK P T b Q .ret fr m=Q .ret fr m:=rfl
theorem c1U{b:CC}{i:Nat}:SK P T b Q (.exit i) fr m=Q (.exit i) fr m:=rfl
theorem d2R{b:CC}{i:Nat}:SK P T b Q (.goto i) fr m=Q (.goto i) fr m:=rfl
theorem c2u{a b:CC}:GC P T (.b true) a b Q fr m=GX P T a Q fr m:=rfl
theorem c0e{a b:CC}:GC P T (.b false) a b Q fr m=GX P T b Q fr m:=rfl
theorem b9e{id:Nat}:BK id Q .normal fr m=Q .normal fr m:=rfl
theorem a6m{id:Nat}:BK id Q .ret fr m=Q .ret fr m:=rfl
theorem c1H{id i:Nat}:BK id Q (.goto i) fr m=Q (.goto i) fr m:=rfl
theorem c6n{id i:Nat}:BK id Q (.exit i) fr m=BE Q (Nat.beq i id) i fr m:=rfl
theorem c93{i:Nat}:BE Q true i fr m=Q .normal fr m:=rfl
theorem c0k{i:Nat}:BE Q false i fr m=Q (.exit i) fr m:=rfl
theorem y8{Inv:Nat→Fr→M→Prop}{k k':Nat}(hk:k'<k)(h:Inv k' fr m):LK Inv k Q .normal fr m:=⟨k',hk,h⟩
theorem a6s{Inv:Nat→Fr→M→Prop}{k:Nat}:LK Inv k Q .ret fr m=Q .ret fr m:=rfl
theorem c8U{Inv:Nat→Fr→M→Prop}{k i:Nat}:LK Inv k Q (.exit i) fr m=Q (.exit i) fr m:=rfl
theorem d1D{Inv:Nat→Fr→M→Prop}{k i:Nat}:LK Inv k Q (.goto i) fr m=Q (.goto i) fr m:=rfl
theorem a0T{rs:List ResultVar}{Q:AV→M→Prop}{x:X}(hx:x= .normal∨x= .ret){l:List AV}(h:E3 P ⟨fr,m,[],none⟩ rs=some l):FK P rs Q x fr m=Q (one l) m:=by
 apply propext
 constructor
 ·rintro⟨_,l',h1,h2⟩
  rw[h] at h1
  cases h1
  exact h2
 ·intro h1
  exact⟨hx,l,h,h1⟩
theorem c8O{Q:AV→M→Prop}:FK P [] Q .ret fr m=Q (.tuple []) m:=a0T (l:= []) (.inr rfl) rfl
theorem a2O{Q:AV→M→Prop}:FK P [] Q .normal fr m=Q (.tuple []) m:=a0T (l:= []) (.inl rfl) rfl
theorem d0I{Q:AV→M→Prop}{t:Nat}:FK P [.tmp t] Q .ret fr m=Q (ev (tm t) fr) m:=a0T (.inr rfl) g5P
theorem c6i{Q:AV→M→Prop}{t u:Nat}:FK P [.tmp t,.tmp u] Q .ret fr m=Q (.tuple [ev (tm t) fr,ev (tm u) fr]) m:=a0T (.inr rfl) f1i
theorem a5z{Q:AV→M→Prop}{t u v:Nat}:FK P [.tmp t,.tmp u,.tmp v] Q .ret fr m=Q (.tuple [ev (tm t) fr,ev (tm u) fr,ev (tm v) fr]) m:=a0T (l:= [ev (tm t) fr,ev (tm u) fr,ev (tm v) fr]) (.inr rfl) rfl
theorem M0:∀{c:CC} {Q:X→Fr→M→Prop} {fr:Fr} {m:M},GX P T c Q fr m→WpC P T c fr m Q
 | .skip,Q,fr,m,h=>f9L h
 | .reg l,Q,fr,m,h=>f91 (U8 h)
 | .drawn l ps,Q,fr,m,h=>f7Q (V9 h)
 | .seq a b,Q,fr,m,h=>by
  refine g0V ((M0 (c:=a) h).mono fun x f1 m1 h1=> ?_)
  cases x with
  |normal=>exact M0 h1
  |ret=>exact h1
  |exit i=>exact h1
  |goto i=>exact h1
 | .cond c a b,Q,fr,m,h=>by
  have h:GC P T (ev c fr) a b Q fr m:=h
  unfold GC at h
  split at h
  ·rename_i e
   exact b9N (t:=true) e (M0 h)
  ·rename_i e
   exact b9N (t:=false) e (M0 h)
  ·exact h.elim
 | .block id b,Q,fr,m,h=>by
  refine f7y ((M0 (c:=b) h).mono fun x f1 m1 h1=> ?_)
  cases x with
  |normal=>exact h1
  |ret=>exact h1
  |goto i=>exact h1
  |exit i=>
   have h1:(match Nat.beq i id with|true=>Q .normal f1 m1|false=>Q (.exit i) f1 m1):=h1
   show if i=id then _ else _
   by_cases e:i=id
   ·rw[if_pos e]
    subst e
    rwa [Nat.beq_refl] at h1
   ·rw[if_neg e]
    rwa [A4,decide_eq_false e] at h1
 | .exit id,Q,fr,m,h=>f85 h
 | .ret,Q,fr,m,h=>g0g h
 | .goto l,Q,fr,m,h=>f8C h
 | .loop b,Q,fr,m,h=>h
 | .scope b,Q,fr,m,h=>h
 | .bad,_,_,_,h=>h.elim
theorem y7{b:CC}(Inv:Nat→Fr→M→Prop){k:Nat}(h0:Inv k fr m)(hs:∀k fr m,Inv k fr m→GX P T b (LK Inv k Q) fr m):GX P T (.loop b) Q fr m:=
 f9O Inv h0 fun k fr m hi=>(M0 (hs k fr m hi)).mono fun x f1 m1 h=>by
  cases x with
  |normal=>exact h
  |ret=>exact h
  |exit i=>exact h
  |goto i=>exact h
def PK(Q:X→Fr→M→Prop)(x:X)(fr:Fr)(m:M):Prop:=(∀l',x≠ .goto l')∧Q x fr m
theorem b9d:PK Q .normal fr m=Q .normal fr m:=propext ⟨fun h=>h.2,fun h=>⟨nofun,h⟩⟩
theorem e1J:PK Q .ret fr m=Q .ret fr m:=propext ⟨fun h=>h.2,fun h=>⟨nofun,h⟩⟩
theorem c5W{i:Nat}:PK Q (.exit i) fr m=Q (.exit i) fr m:=propext ⟨fun h=>h.2,fun h=>⟨nofun,h⟩⟩
def JK(P:Program)(T:Tb)(b:Code)(Q:X→Fr→M→Prop)(x:X)(fr:Fr)(m:M):Prop:=match x with
 | .goto l=>∃rest cr,findLabel b l=some rest∧j9 P rest=cr∧GX P T cr (PK Q) fr m
 |x=>Q x fr m
theorem b84{b:Code}:JK P T b Q .normal fr m=Q .normal fr m:=rfl
theorem d8B{b:Code}:JK P T b Q .ret fr m=Q .ret fr m:=rfl
theorem d11{b:Code}{i:Nat}:JK P T b Q (.exit i) fr m=Q (.exit i) fr m:=rfl
theorem WpF.go{g:FuncId}{cc:CC}{nt:Nat}{rs:List ResultVar}(hf:FnAt P T g cc nt rs){args:List AV}{m:M}{Q:AV→M→Prop}
  (h:GX P T cc (FK P rs Q) (v8 args (nat_lit 0) .leaf) m) (hit:T.it g args m=none:=by rfl) (hn:Nat.ble args.length nt=true:=by rfl):WpF P T g args m Q:=
 f7H hf hit hn (M0 h)
theorem WpF.eq{g:FuncId}{args:List AV}{m m1:M}{v:AV}(h:WpF P T g args m fun v' m'=>v'=v∧m'=m1):∀Q:AV→M→Prop,WpF P T g args m Q=Q v m1:=by
 intro Q
 obtain⟨N,v',m',h1,rfl,rfl⟩:=h
 apply propext
 constructor
 ·rintro⟨N2,v2,m2,h3,h4⟩
  have e1:=h1 (max N N2) (by omega)
  rw[h3 _ (by omega)] at e1
  cases e1
  exact h4
 ·intro h
  exact⟨N,_,_,h1,h⟩
theorem d6j(b o:Nat):v6 40 (.ptr b o) (.ptr b o)=true:=by simp[v6,Nat.beq_refl]
theorem f2w(c:Bool):v6 40 (.b c) (.b c)=true:=by cases c<;>rfl
theorem d74(b:Nat):v6 40 (.map b) (.map b)=true:=by simp[v6,Nat.beq_refl]
theorem d04:v6 40 s9 s9=true:=rfl
theorem b91:v6 40 AV.undef AV.undef=true:=rfl
theorem c4C{t:Nat}{w:Bool}{fr:Fr}:J1 (some (pth t,w)) fr=D9 w (ev (tm t) fr):=rfl
theorem b8I{l:List CO}{t:List T3}{i p:Nat}:Z6 l t (i,p)=match l[i]?,t[i]?,t[p]? with
 |some (.op _ g o),some a,some b=>match ob (J1 g a.fr) fun t=>bc t (run o a.fr b.m) (some (AV.undef,b.m)) with
  |some q=>v6 40 q.1 a.x
  |none=>false
 |_,_,_=>false:=rfl
theorem d0u(a:T3):L9 [a] =some a:=rfl
theorem c3R(a b:T3)(l:List T3):L9 (a::b::l)=L9 (b::l):=rfl
def Ran(P:Program)(T:Tb)(g:FuncId)(args:List AV)(m:M)(v:AV)(m1:M):Prop:=WpF P T g args m fun v' m'=>v'=v∧m'=m1
theorem Ran.eq{g:FuncId}{args:List AV}{m m1:M}{v:AV}(h:Ran P T g args m v m1):∀Q:AV→M→Prop,WpF P T g args m Q=Q v m1:=WpF.eq h
theorem WpF.ran{g:FuncId}{args:List AV}{m:M}{Q:AV→M→Prop}(h:WpF P T g args m Q):∃v m1,Q v m1∧Ran P T g args m v m1:=by
 obtain⟨N,v,m',h1,h2⟩:=h
 exact⟨v,m',h2,N,v,m',h1,rfl,rfl⟩
end
section
variable {m:M}
theorem At.st{b:Nat}{e:TypeId}{xt:Bool}{l l':List AV}(h:At m b e xt l)(hw:Wf m)(i:Nat)(vs:List AV)(hs:z6 l i vs=l':=by rfl)(hi:i+vs.length≤l.length:=by exact Nat.le_of_ble_eq_true rfl):
  ∃m',m.wr b i vs=some m'∧At m' b e xt l'∧Keep m m' (fun x=>x=b)∧m'.next=m.next:=
 ⟨m.upd b i vs,h.wr hi,hs▸h.upd hi,Keep.upd hw fun _=>rfl,M.next_upd ..⟩
theorem l6(hw:Wf m)(e n:Nat)(l:List AV)(hn:n=l.length:=by rfl):∃m',m.addL e n l=m'∧At m' m.next e true l∧Keep m m' (fun _=>False)∧m'.next=m.next+1:=
 ⟨_,rfl,At.addL hn,Keep.addL hw,M.next_addL ..⟩
theorem B0(hw:Wf m)(e n:Nat)(z:List AV)(hn:n=z.length:=by rfl):∃m',m.addZ e n z=m'∧At m' m.next e true z∧Keep m m' (fun _=>False)∧m'.next=m.next+1:=
 ⟨_,rfl,At.addZ hn,Keep.addZ hw,M.next_addZ ..⟩
end
end Go.Am
